/-
  Layer texts, glued and made small.
-/
import Derived.Test.YtcbijikalfodnaaG05
import Derived.Deep.MidRow
import Derived.Lib.MinMax
set_option linter.unusedVariables false
set_option linter.unusedSimpArgs false
set_option maxRecDepth 100000
set_option maxHeartbeats 4000000
namespace Go.Proofs.Ytcbijikalfodnaa.Tms
open Go Go.RowKit Go.Proofs.Ytcbijikalfodnaa.Reg Go.Proofs.Ytcbijikalfodnaa.Rws Go.Proofs.Ytcbijikalfodnaa.Cod Go.Proofs.Ytcbijikalfodnaa.Maps
def insKind : Rws.Kind Ins where
 T := 71
 sz := 4
 R := fun w P cs i => cs = [.int .i64 i.op, .int .i64 i.a, .int .i64 i.n, .string i.s]
 pos := by decide
 len := by rintro w P cs a rfl; rfl
 one := by
  rintro w P cs a rfl v hv; simp only [List.mem_cons, List.not_mem_nil, or_false] at hv; rcases hv with rfl | rfl | rfl | rfl <;> rfl
 mono := by rintro w w' P P' cs a hP hw rfl; rfl
 lt := by rintro w P cs a rfl; rfl
theorem info_ins : (Try.prog.info? 71).map (fun i => (i.zero, i.size, i.bytes)) = some (some (.agg #[.int .i64 0, .int .i64 0, .int .i64 0, .string ⟨#[]⟩]), 4, 40) := by kernel_rfl
abbrev aggI (i : Ins) : Value := .agg #[.int .i64 i.op, .int .i64 i.a, .int .i64 i.n, .string i.s]
def slotsOf (i : Nat) : List Int → List (Int × Int)
 | [] => []
 | n :: l => (n, (i : Int)) :: slotsOf (i + 1) l
theorem slotsOf_app : ∀ (i : Nat) (l m : List Int), slotsOf i (l ++ m) = slotsOf i l ++ slotsOf (i + l.length) m
 | i, [], m => by simp [slotsOf]
 | i, n :: l, m => by simp [slotsOf, slotsOf_app (i + 1) l m, Nat.add_comm, Nat.add_left_comm]
theorem mget_slots (n : Int) : ∀ (l : List Int) (i : Nat), mget (slotsOf i l) n = (place l n).map fun p => ((i + p : Nat) : Int)
 | [], i => by simp [slotsOf, mget, place]
 | x :: l, i => by
   simp only [slotsOf, mget, place]
   by_cases h : n = x
   ·rw [if_pos h, if_pos h]; rfl
   ·rw [if_neg h, if_neg h, mget_slots n l (i + 1)]
    cases place l n <;> simp
    omega
theorem slots_len : ∀ (l : List Int) (i : Nat), (slotsOf i l).length = l.length
 | [], i => rfl
 | n :: l, i => by simp [slotsOf, slots_len l (i + 1)]
structure PutC where
 base : Nat
 pb : Nat
 cb : Nat
 tb : Nat
 sb : Nat
 nm : ByteArray
 na : Int
 ns : Int
 nb : Int
 T : List (Int × Int)
structure PutRow (C : PutC) (S : List Int) (L : List Ins) (lv : Value) (W : World) : Prop where
 prow : W.heap[C.pb]? = some (.cells #[.map (some C.tb), .map (some C.sb), .func (.func 39) #[] #[.pointer (some ⟨C.cb, 0, none⟩)]] 99 (0, 0))
 crow : W.heap[C.cb]? = some (.cells #[.string C.nm, .int .i64 C.na, .int .i64 C.ns, .int .i64 C.nb, lv] 30 (0, 0))
 times : IMap W C.tb C.T
 slots : IMap W C.sb (slotsOf 0 S)
 own : Own insKind W C.base (fun _ => False) lv L
 ne : C.tb ≠ C.sb
 lp : C.pb < C.base
 lc : C.cb < C.base
 lt : C.tb < C.base
 ls : C.sb < C.base
 base : C.base ≤ W.heap.size
def PutAt (C : PutC) (S : List Int) (L : List Ins) (W : World) : Prop := ∃ lv, PutRow C S L lv W
def PMine (C : PutC) (W : World) (b : Nat) : Prop := b = C.cb ∨ b = C.sb ∨ ∃ lv, W.cell? ⟨C.cb, 4, none⟩ = some lv ∧ lv.ownBlock = some b
section
variable {C : PutC} {S : List Int} {L : List Ins} {lv : Value} {W W' : World}
theorem PutRow.cell (h : PutRow C S L lv W) : W.cell? ⟨C.cb, 4, none⟩ = some lv := cell_of_row W C.cb 4 _ _ _ h.crow
theorem PutRow.pc (h : PutRow C S L lv W) : C.pb ≠ C.cb := fun e => by
 have h1 := h.prow; rw [e, h.crow] at h1; simp at h1
theorem PutRow.ps (h : PutRow C S L lv W) : C.pb ≠ C.sb := fun e => by
 obtain ⟨es, c, h1, -⟩ := h.slots; rw [← e, h.prow] at h1; simp at h1
theorem PutRow.cs (h : PutRow C S L lv W) : C.cb ≠ C.sb := fun e => by
 obtain ⟨es, c, h1, -⟩ := h.slots; rw [← e, h.crow] at h1; simp at h1
theorem PutRow.ct (h : PutRow C S L lv W) : C.cb ≠ C.tb := fun e => by
 obtain ⟨es, c, h1, -⟩ := h.times; rw [← e, h.crow] at h1; simp at h1
theorem PutRow.nown (h : PutRow C S L lv W) {b : Nat} (hb : b < C.base) : lv.ownBlock ≠ some b := fun e => by have := h.own.low b e; omega
theorem PutRow.form (h : PutRow C S L lv W) : ∃ q c, lv = .slice q L.length c := by
 rcases h.own.form with ⟨rfl, e⟩ | ⟨g, c, rfl⟩
 ·exact ⟨none, 0, by rw [e]; rfl⟩
 ·exact ⟨_, c, rfl⟩
theorem PutAt.low (h : PutAt C S L W) {b : Nat} (hb : PMine C W b) : b < W.heap.size := by
 obtain ⟨lv, h⟩ := h; rcases hb with rfl | rfl | ⟨lv', hc, hb⟩
 ·have := h.lc; have := h.base; omega
 ·have := h.ls; have := h.base; omega
 ·rw [h.cell] at hc
  obtain rfl := Option.some.inj hc; exact (h.own.low b hb).2
def PRead (C : PutC) (W : World) (b : Nat) : Prop := b = C.pb ∨ b = C.tb ∨ PMine C W b
theorem PutAt.keep (h : PutAt C S L W) (hs : W.heap.size ≤ W'.heap.size) (hk : ∀ b, b < W.heap.size → PRead C W b → W'.heap[b]? = W.heap[b]?) : PutAt C S L W' ∧ ∀ b, PMine C W' b → PMine C W b := by
 have hlow := @PutAt.low C S L W h; obtain ⟨lv, h⟩ := h; have hbs := h.base; have hp := hk C.pb (by have := h.lp; omega) (.inl rfl); have ht := hk C.tb (by have := h.lt; omega) (.inr (.inl rfl)); have hc := hk C.cb (by have := h.lc; omega) (.inr (.inr (.inl rfl))); have hsb := hk C.sb (by have := h.ls; omega) (.inr (.inr (.inr (.inl rfl)))); refine ⟨⟨lv, hp.trans h.prow, hc.trans h.crow, h.times.below ht, h.slots.below hsb, h.own.keep hs fun b hb hq => ?_, h.ne, h.lp, h.lc, h.lt, h.ls, by omega⟩, fun b hb => ?_⟩
 ·rcases hq with hq | hq
  ·exact hq.elim
  ·exact hk b hb (.inr (.inr (.inr (.inr ⟨lv, h.cell, hq⟩))))
 ·rcases hb with hb | hb | ⟨lv', hcc, hb⟩
  ·exact .inl hb
  ·exact .inr (.inl hb)
  ·rw [cell_of_row W' C.cb 4 _ _ _ (hc.trans h.crow)] at hcc
   obtain rfl := Option.some.inj hcc; exact .inr (.inr ⟨lv, h.cell, hb⟩)
theorem PutAt.readLow (h : PutAt C S L W) {b : Nat} (hb : PRead C W b) : b < W.heap.size := by
 rcases hb with rfl | rfl | hb
 ·obtain ⟨lv, h⟩ := h; have := h.lp; have := h.base; omega
 ·obtain ⟨lv, h⟩ := h; have := h.lt; have := h.base; omega
 ·exact h.low hb
end
def Did (C : PutC) (S : List Int) (L : List Ins) (w w' : World) : Prop := PutAt C S L w' ∧ Keeps w w' (PMine C w) ∧ ∀ b, PMine C w' b → PMine C w b ∨ w.heap.size ≤ b
theorem Did.below {C : PutC} {S : List Int} {L : List Ins} {w w' : World} (h : PutAt C S L w) (hb : Below w.heap.size w w') : Did C S L w w' := by
 obtain ⟨h1, h2⟩ := h.keep hb.size fun b hlt _ => hb.block b hlt
 exact ⟨h1, Keeps.of hb, fun b hb => .inl (h2 b hb)⟩
theorem Did.trans {C : PutC} {S S' : List Int} {L L' : List Ins} {w w1 w2 : World} (h : Did C S L w w1) (h' : Did C S' L' w1 w2) : Did C S' L' w w2 := by
 obtain ⟨-, h2, h3⟩ := h; obtain ⟨k1, k2, k3⟩ := h'; refine ⟨k1, h2.trans k2 h3, fun b hb => ?_⟩; rcases k3 b hb with hb | hb
 ·exact h3 b hb
 ·exact .inr (Nat.le_trans h2.size hb)
theorem put_finC {C : PutC} {S : List Int} {L : List Ins} {i : Ins} {lv v3 : Value} {w u w3 : World} (h : PutRow C S L lv w) (hb : Below w.heap.size w u) (hg : u.grownBy w3 lv.ownBlock) (hown : Own insKind w3 C.base (fun _ => False) v3 (L ++ [i]))
 (hv : ∀ k, v3.ownBlock = some k → lv.ownBlock = some k ∨ u.heap.size ≤ k) : (w3.cell? ⟨C.cb, 4, none⟩ = some lv ∧ w3.frozen? ⟨C.cb, 4, none⟩ = false) ∧ Did C S (L ++ [i]) w (w3.setCell ⟨C.cb, 4, none⟩ v3) := by
 have hbs := h.base; have hz1 := hb.size; have hz2 := hg.size; have keep : ∀ b, b < C.base → w3.heap[b]? = w.heap[b]? := fun b hlt => (hg.block b (by omega) fun e => h.nown hlt e.symm).trans (hb.block b (by omega))
 have hc3 := (keep _ h.lc).trans h.crow; have hlow := fun k e => (hown.low k e)
 have keep4 : ∀ b, b < C.base → b ≠ C.cb → (w3.setCell ⟨C.cb, 4, none⟩ v3).heap[b]? = w.heap[b]? := fun b hlt hne => (Below.heap_setCell _ _ _ _ hne).trans (keep b hlt)
 have hc4 : (w3.setCell ⟨C.cb, 4, none⟩ v3).heap[C.cb]? = some (.cells #[.string C.nm, .int .i64 C.na, .int .i64 C.ns, .int .i64 C.nb, v3] 30 (0, 0)) := by
  have := heap_setCell_same w3 C.cb 4 _ _ v3 hc3
  simpa using this
 have hsz4 : (w3.setCell ⟨C.cb, 4, none⟩ v3).heap.size = w3.heap.size := by simp [World.setCell]
 refine ⟨⟨cell_of_row w3 C.cb 4 _ _ _ hc3, frozen_of_row w3 C.cb 4 _ _ hc3⟩, ⟨v3, (keep4 _ h.lp h.pc).trans h.prow, hc4, h.times.below (keep4 _ h.lt fun e => h.ct e.symm), h.slots.below (keep4 _ h.ls fun e => h.cs e.symm), hown.keep (by omega) fun b hlt hq => ?_, h.ne, h.lp, h.lc, h.lt, h.ls, by omega⟩, ⟨?_, ?_, ?_, by omega, fun b hlt hn => ?_⟩, fun b hm => ?_⟩
 ·rcases hq with hq | hq
  ·exact hq.elim
  ·exact Below.heap_setCell _ _ _ _ fun e => by have := hlow b hq; have := h.lc; have e : b = C.cb := e; omega
 ·exact hg.os.trans hb.os
 ·exact hg.tape.trans hb.tape
 ·exact hg.output.trans hb.output
 ·exact (Below.heap_setCell _ _ _ _ fun e => hn (.inl e)).trans ((hg.block b (by omega) fun e => hn (.inr (.inr ⟨_, h.cell, e.symm⟩))).trans (hb.block b hlt))
 ·rcases hm with hm | hm | ⟨lv', hc, hm⟩
  ·exact .inl (.inl hm)
  ·exact .inl (.inr (.inl hm))
  ·rw [cell_of_row _ C.cb 4 _ _ _ hc4] at hc
   obtain rfl := Option.some.inj hc; rcases hv b hm with h' | h'
   ·exact .inl (.inr (.inr ⟨_, h.cell, h'⟩))
   ·exact .inr (by omega)
theorem comp_put (C : PutC) (S : List Int) (L : List Ins) (i : Ins) (w : World) (hL : L.length ≤ 1000000000) (h : PutAt C S L w) :
 Calls Try.prog 39 #[aggI i, .pointer (some ⟨C.cb, 0, none⟩)] w fun e w' => e = .returned (.tuple #[]) ∧ Did C S (L ++ [i]) w w' := by
 obtain ⟨lv, h⟩ := h; obtain ⟨q, cp, rfl⟩ := h.form; have hrow : (w.alloc (.cells #[.int .i64 i.op, .int .i64 i.a, .int .i64 i.n, .string i.s] 71 (0, 0))).heap[w.heap.size]? = _ := heap_alloc_new w (.cells #[.int .i64 i.op, .int .i64 i.a, .int .i64 i.n, .string i.s] 71 (0, 0)); obtain ⟨x0, x1, x2, x3⟩ := row4 hrow; have hbx : Below w.heap.size w (w.alloc (.cells #[.int .i64 i.op, .int .i64 i.a, .int .i64 i.n, .string i.s] 71 (0, 0))) := (Below.refl _ _).alloc (Nat.le_refl _) _; have hsz : (w.alloc (.cells #[.int .i64 i.op, .int .i64 i.a, .int .i64 i.n, .string i.s] 71 (0, 0))).heap.size = w.heap.size + 1 := by simp
 have y4 : (w.alloc (.cells #[.int .i64 i.op, .int .i64 i.a, .int .i64 i.n, .string i.s] 71 (0, 0))).cell? ⟨C.cb, 4, none⟩ = some (.slice q L.length cp) := (hbx.cell (p := ⟨C.cb, 4, none⟩) (by have := h.lc; have := h.base; show C.cb < _; omega)).trans h.cell; have HH := Lib.hid h; have HB := Lib.hid hbx; have HZ := Lib.hid hsz; clear hrow h hbx hsz
 go_enter Try.func39, Try.ntmps39
 go_wp2_with (with_reducible show wpList _ _ _ (⟨some 7, _, _, _, _, _⟩ :: _) _ _
              have hrow2 := heap_alloc_new (w.alloc (.cells #[.int .i64 i.op, .int .i64 i.a, .int .i64 i.n, .string i.s] 71 (0, 0))) (.cells #[.int .i64 i.op, .int .i64 i.a, .int .i64 i.n, .string i.s] 71 (0, 0)); have hsz2 : ((w.alloc (.cells #[.int .i64 i.op, .int .i64 i.a, .int .i64 i.n, .string i.s] 71 (0, 0))).alloc (.cells #[.int .i64 i.op, .int .i64 i.a, .int .i64 i.n, .string i.s] 71 (0, 0))).heap.size = w.heap.size + 1 + 1 := by simp
              have hb2 : Below w.heap.size w ((w.alloc (.cells #[.int .i64 i.op, .int .i64 i.a, .int .i64 i.n, .string i.s] 71 (0, 0))).alloc (.cells #[.int .i64 i.op, .int .i64 i.a, .int .i64 i.n, .string i.s] 71 (0, 0))) := HB.out.alloc HB.out.size _; rw [HZ.out] at hrow2; generalize (w.alloc (.cells #[.int .i64 i.op, .int .i64 i.a, .int .i64 i.n, .string i.s] 71 (0, 0))).alloc (.cells #[.int .i64 i.op, .int .i64 i.a, .int .i64 i.n, .string i.s] 71 (0, 0)) = u at *; have HB2 := Lib.hid hb2; refine wpList_put (K := insKind) rfl (.tmp 4) (.tmp 6) _ rfl Try.underlying28 info_ins rfl C.base (fun _ => False) _ L [.int .i64 i.op, .int .i64 i.a, .int .i64 i.n, .string i.s] i (w.heap.size + 1) _ _ _ rfl (HH.out.own.below hb2) rfl hrow2 rfl (by unfold maxLen; omega) (by omega) (by have := HH.out.base; omega) ?_; intro v3 w3 hown3 hb3 hg3 hv3
              obtain ⟨g9, c9, rfl⟩ : ∃ g9 c9, v3 = .slice (some ⟨g9, 0, none⟩) (L.length + 1) c9 := by
               rcases hown3.form with h | ⟨g9, c9, e9⟩
               ·exfalso; have := congrArg List.length h.2; simp at this
               ·exact ⟨g9, c9, by rw [e9]; simp⟩
              obtain ⟨⟨c0, z1⟩, hfin⟩ := put_finC HH.out HB2.out hg3 hown3 hv3; have HFIN := Lib.hid hfin; clear hfin hown3 hb3 hg3 hv3 hrow2 hsz2 HB2 x0 x1 x2 x3 y4)
 exact ⟨rfl, .tuple #[], by simp [results, Try.results39, go_sem], rfl, HFIN.out⟩
def varP (one : Int → Bool) (S : List Int) (n : Int) : List Ins × List Int :=
 if one n = true then ([⟨1, 0, 0, ⟨#[]⟩⟩], S) else match place S n with
     | some p => ([⟨3, (p : Nat), 0, ⟨#[]⟩⟩], S)
     | none => ([⟨2, S.length, 0, ⟨#[]⟩⟩], S ++ [n])
def oneOf (T : List (Int × Int)) (n : Int) : Bool := (mget T n).getD 0 == 1
theorem slot_fin {C : PutC} {S : List Int} {L : List Ins} {n : Int} {w w2 : World} (h : PutAt C S L w) (hp : place S n = none) (hg : w.grownBy w2 (some C.sb)) (hm : IMap w2 C.sb (mset n S.length (slotsOf 0 S))) : Did C (S ++ [n]) L w w2 := by
 obtain ⟨lv, h⟩ := h; have hbs := h.base; have hz := hg.size; have keep : ∀ b, b < w.heap.size → b ≠ C.sb → w2.heap[b]? = w.heap[b]? := fun b hlt hne => hg.block b hlt fun e => hne (Option.some.inj e)
 have hms : mset n S.length (slotsOf 0 S) = slotsOf 0 (S ++ [n]) := by
  rw [mset_new (by rw [mget_slots, hp]; rfl), slotsOf_app]
  simp [slotsOf]
 have hc2 := (keep C.cb (by have := h.lc; omega) h.cs).trans h.crow; refine ⟨⟨lv, (keep _ (by have := h.lp; omega) h.ps).trans h.prow, hc2, h.times.below (keep _ (by have := h.lt; omega) h.ne), hms ▸ hm, h.own.keep hz fun b hlt hq => ?_, h.ne, h.lp, h.lc, h.lt, h.ls, by omega⟩, ⟨hg.os, hg.tape, hg.output, hz, fun b hlt hn => keep b hlt fun e => hn (.inr (.inl e))⟩, fun b hb => ?_⟩
 ·rcases hq with hq | hq
  ·exact hq.elim
  ·exact keep b hlt fun e => h.nown h.ls (by rw [hq, e])
 ·rcases hb with hb | hb | ⟨lv', hc, hb⟩
  ·exact .inl (.inl hb)
  ·exact .inl (.inr (.inl hb))
  ·rw [cell_of_row w2 C.cb 4 _ _ _ hc2] at hc
   obtain rfl := Option.some.inj hc; exact .inl (.inr (.inr ⟨_, h.cell, hb⟩))
theorem PutAt.cells {C : PutC} {S : List Int} {L : List Ins} {w : World} (h : PutAt C S L w) : w.cell? ⟨C.pb, 0, none⟩ = some (.map (some C.tb)) ∧ w.cell? ⟨C.pb, 1, none⟩ = some (.map (some C.sb)) ∧
 w.cell? ⟨C.pb, 2, none⟩ = some (.func (.func 39) #[] #[.pointer (some ⟨C.cb, 0, none⟩)]) ∧ IMap w C.tb C.T ∧ IMap w C.sb (slotsOf 0 S) := by
 obtain ⟨lv, h⟩ := h; exact ⟨cell_of_row w C.pb 0 _ _ _ h.prow, cell_of_row w C.pb 1 _ _ _ h.prow, cell_of_row w C.pb 2 _ _ _ h.prow, h.times, h.slots⟩
def PutPost (C : PutC) (S : List Int) (L : List Ins) (w : World) (e : Ending) (w' : World) : Prop := e = .returned (.tuple #[]) ∧ Did C S L w w'
theorem comp_variable (C : PutC) (S : List Int) (L : List Ins) (n : Int) (w : World) (hL : L.length ≤ 1000000000) (h : PutAt C S L w) :
 Calls Try.prog 61 #[.pointer (some ⟨C.pb, 0, none⟩), .int .i64 n] w (PutPost C (varP (oneOf C.T) S n).2 (L ++ (varP (oneOf C.T) S n).1) w) := by
 have HH := Lib.hid h; obtain ⟨c0, c1, c2, hT, hS⟩ := h.cells; have HT := Lib.hid hT; have HS := Lib.hid hS; clear h hT hS; cases ho : oneOf C.T n with
 | true =>
   have hr : varP (oneOf C.T) S n = ([⟨1, 0, 0, ⟨#[]⟩⟩], S) := by simp [varP, ho]
   have hb : ((mget C.T n).getD 0 == 1) = true := ho; rw [hr]; clear hr ho
   go_enter Try.func61, Try.ntmps61
   go_wp2_with (refine wpList_imap_one rfl 53 (.tmp 9) (.tmp 10) rfl _ _ _ Try.underlying53 Try.underlying2 C.tb _ rfl HT.out n rfl (fun _ => by kernel_rfl) ?_)
   refine (comp_put C S L ⟨1, 0, 0, ⟨#[]⟩⟩ _ hL HH.out).mono ?_; rintro e w2 ⟨rfl, hd⟩; have HD := Lib.hid hd; clear hd; go_wp2; exact bodyPost_ret (v := .tuple #[]) (by simp [results, Try.results61, go_sem]) rfl ⟨rfl, HD.out⟩
 | false =>
   have hb : ((mget C.T n).getD 0 == 1) = false := ho; cases hp : place S n with
   | some p =>
     have hr : varP (oneOf C.T) S n = ([⟨3, (p : Nat), 0, ⟨#[]⟩⟩], S) := by simp [varP, ho, hp]
     have hm : mget (slotsOf 0 S) n = some (p : Int) := by rw [mget_slots, hp]; simp
     rw [hr]; clear hr ho hp
     go_enter Try.func61, Try.ntmps61
     go_wp2_with (first
      | (refine wpList_imap_one rfl 53 (.tmp 9) (.tmp 10) rfl _ _ _ Try.underlying53 Try.underlying2 C.tb _ rfl HT.out n rfl (fun _ => by kernel_rfl) ?_)
      | (refine wpList_imap_ok rfl 53 (.tmp 23) (.tmp 24) rfl _ _ _ Try.underlying53 Try.underlying2 C.sb _ rfl HS.out n rfl (fun _ => by kernel_rfl) ?_
         rw [hm]))
     refine (comp_put C S L ⟨3, (p : Nat), 0, ⟨#[]⟩⟩ _ hL HH.out).mono ?_; rintro e w2 ⟨rfl, hd⟩; have HD := Lib.hid hd; clear hd; go_wp2; exact bodyPost_ret (v := .tuple #[]) (by simp [results, Try.results61, go_sem]) rfl ⟨rfl, HD.out⟩
   | none =>
     have hr : varP (oneOf C.T) S n = ([⟨2, S.length, 0, ⟨#[]⟩⟩], S ++ [n]) := by simp [varP, ho, hp]
     have hm : mget (slotsOf 0 S) n = none := by rw [mget_slots, hp]; rfl
     have HP := Lib.hid hp; have hlen := slots_len S 0; rw [hr]; clear hr ho hp
     go_enter Try.func61, Try.ntmps61
     go_wp2_with (first
      | (refine wpList_imap_one rfl 53 (.tmp 9) (.tmp 10) rfl _ _ _ Try.underlying53 Try.underlying2 C.tb _ rfl HT.out n rfl (fun _ => by kernel_rfl) ?_)
      | (refine wpList_imap_ok rfl 53 (.tmp 23) (.tmp 24) rfl _ _ _ Try.underlying53 Try.underlying2 C.sb _ rfl HS.out n rfl (fun _ => by kernel_rfl) ?_
         rw [hm])
      | (refine wpList_imap_len rfl (.tmp 39) 53 rfl _ _ Try.underlying53 C.sb _ rfl HS.out ?_
         rw [hlen])
      | (refine wpList_imap_set rfl 53 (.tmp 44) (.tmp 45) (.tmp 46) rfl _ _ _ Try.underlying53 Try.underlying2 C.sb _ rfl HS.out n rfl S.length rfl ?_
         intro w2 hi2 hg2; have hd2 := slot_fin HH.out HP.out hg2 hi2; have c2' := hd2.1.cells.2.2.1; have HD2 := Lib.hid hd2; clear hi2 hg2 hd2 c0 c1 c2))
     refine (comp_put C (S ++ [n]) L ⟨2, S.length, 0, ⟨#[]⟩⟩ _ hL HD2.out.1).mono ?_; rintro e w3 ⟨rfl, hd⟩; have HD := Lib.hid (HD2.out.trans hd); clear hd; go_wp2; exact bodyPost_ret (v := .tuple #[]) (by simp [results, Try.results61, go_sem]) rfl ⟨rfl, HD.out⟩
theorem patT_var {one : Int → Bool} {S : List Int} {t : Tm} (h : t.k = 1) : patT one S t = varP one S t.n := by
 obtain ⟨k, n, s, a⟩ := t; simp only [Tm.k] at h; unfold patT varP; rw [if_pos h]; rfl
theorem patT_int {one : Int → Bool} {S : List Int} {t : Tm} (h : t.k = 2) : patT one S t = ([⟨4, 0, t.n, ⟨#[]⟩⟩], S) := by
 obtain ⟨k, n, s, a⟩ := t; simp only [Tm.k] at h; subst h
 simp [patT, Tm.n]
theorem patT_atom {one : Int → Bool} {S : List Int} {t : Tm} (h : t.k = 3) : patT one S t = ([⟨5, 0, 0, t.s⟩], S) := by
 obtain ⟨k, n, s, a⟩ := t; simp only [Tm.k] at h; subst h
 simp [patT, Tm.s]
theorem patT_comp {one : Int → Bool} {S : List Int} {t : Tm} (h : t.k = 4) : patT one S t = (⟨6, t.args.length, 0, t.s⟩ :: (patL one S t.args).1, (patL one S t.args).2) := by
 obtain ⟨k, n, s, a⟩ := t; simp only [Tm.k] at h; subst h
 simp [patT, Tm.s, Tm.args]
theorem patL_snoc (one : Int → Bool) (t : Tm) : ∀ (l : List Tm) (S : List Int), patL one S (l ++ [t]) = ((patL one S l).1 ++ (patT one (patL one S l).2 t).1, (patT one (patL one S l).2 t).2)
 | [], S => by simp [patL]
 | x :: l, S => by simp only [List.cons_append, patL, patL_snoc one t l]; simp
theorem patL_take (one : Int → Bool) (S : List Int) (ts : List Tm) (q : Nat) (h : q < ts.length) : patL one S (ts.take (q + 1)) = ((patL one S (ts.take q)).1 ++ (patT one (patL one S (ts.take q)).2 ts[q]).1, (patT one (patL one S (ts.take q)).2 ts[q]).2) := by
 rw [List.take_succ_eq_append_getElem h, patL_snoc]
theorem varP_len (one : Int → Bool) (S : List Int) (n : Int) : (varP one S n).1.length = 1 := by
 unfold varP
 split
 ·rfl
 ·cases place S n <;> rfl
mutual
theorem patT_len (one : Int → Bool) : ∀ (t : Tm) (S : List Int), (patT one S t).1.length ≤ t.size
 | .mk k n s a, S => by
   by_cases k1 : k = 1
   ·rw [patT_var (t := .mk k n s a) k1, varP_len]; simp [Tm.size]
   ·have := patL_len one a S
    unfold patT; rw [if_neg k1]; simp only [Tm.size]
    split
    ·simp
    ·split
     ·simp
     ·simp; omega
theorem patL_len (one : Int → Bool) : ∀ (l : List Tm) (S : List Int), (patL one S l).1.length ≤ sizeL l
 | [], S => by simp [patL, sizeL]
 | t :: l, S => by
   have h1 := patT_len one t S; have h2 := patL_len one l (patT one S t).2; simp only [patL, List.length_append, sizeL]; omega
end
def PaRel (C : PutC) (S : List Int) (L : List Ins) (i : Ins) (ts : List Tm) (w : World) (vi : Value) (wr : World) : Prop :=
 ∃ q : Nat, q ≤ ts.length ∧ vi = .int .i64 q ∧ Did C (patL (oneOf C.T) S (ts.take q)).2 (L ++ i :: (patL (oneOf C.T) S (ts.take q)).1) w wr
theorem Did.sl {C : PutC} {S : List Int} {L : List Ins} {w w' : World} {P : Nat → Prop} {v : Value} {ts : List Tm} (h : Did C S L w w') (hs : IsSl w P v ts) (hP : ∀ b, P b → ¬ PMine C w b) : IsSl w' P v ts :=
 hs.imp (fun _ h => h) fun b hb hlt => h.2.1.block b hlt (hP b hb)
theorem PutAt.mine_below {C : PutC} {S : List Int} {L : List Ins} {w w' : World} (h : PutAt C S L w) (hb : Below w.heap.size w w') : ∀ b, PMine C w' b → PMine C w b := (h.keep hb.size fun b hlt _ => hb.block b hlt).2
theorem pa_start {C : PutC} {S : List Int} {L : List Ins} {i : Ins} {ts : List Tm} {w wr : World} (h : Did C S (L ++ [i]) w wr) : PaRel C S L i ts w (.int .i64 ((0 : Nat) : Int)) wr :=
 ⟨0, by omega, rfl, by simpa [patL] using h⟩
theorem comp_pattern (C : PutC) (N : Nat) : ∀ (t : Tm) (v : Value) (P : Nat → Prop) (S : List Int) (L : List Ins) (w : World), t.size ≤ N → L.length + t.size ≤ 1000000000 → mayT t = true → PutAt C S L w → IsTm w P v t → (∀ b, P b → ¬ PMine C w b) →
 Calls Try.prog 41 #[.pointer (some ⟨C.pb, 0, none⟩), v] w (PutPost C (patT (oneOf C.T) S t).2 (L ++ (patT (oneOf C.T) S t).1) w) := by
 induction N with
 | zero => intro t v P S L w hN; have := size_pos t; omega
 | succ N ih =>
   intro t v P S L w hN hM hmy hp h1 hP; have IH := Lib.hid ih; obtain ⟨P', h1, hP, hlow⟩ : ∃ P' : Nat → Prop, IsTm w P' v t ∧ (∀ b, P' b → ¬ PMine C w b) ∧ ∀ b, P' b → b < w.heap.size := ⟨_, h1.lt, fun b h => hP b h.1, fun b h => h.2⟩; obtain ⟨a, cap, rfl⟩ := h1.form; have hb0 := below_new w (rowT t a cap); have hz0 : (w.alloc (rowT t a cap)).heap.size = w.heap.size + 1 := by simp
   have hrow : (w.alloc (rowT t a cap)).heap[w.heap.size]? = some (rowT t a cap) := heap_alloc_new w _; have hd0 := Did.below hp hb0; have hmi : ∀ b, PMine C (w.alloc (rowT t a cap)) b → b < w.heap.size := fun b h => hp.low (hp.mine_below hb0 b h)
   obtain ⟨x0, x1, x2, x3⟩ := row4 hrow; have HP := Lib.hid hP; have HLOW := Lib.hid hlow; have H1 := Lib.hid h1; have HB := Lib.hid hb0; have HZ := Lib.hid hz0; have HR := Lib.hid hrow; have HD := Lib.hid hd0; have HMY := Lib.hid hmy; have HMI := Lib.hid hmi; have HN := Lib.hid hN; have HM := Lib.hid hM; have hLl : L.length ≤ 1000000000 := by omega
   have hK := may_kind hmy; clear ih h1 hb0 hz0 hrow hd0 hmy hp hP hlow hN hM hmi; rcases hK with k1 | k2 | k3 | k4
   ·have b1 : (t.k == 1) = true := by simp [k1]
    have hr := patT_var (one := oneOf C.T) (S := S) k1; rw [hr]; clear hr k1
    go_enter Try.func41, Try.ntmps41
    go_wp2_with fail
    refine (comp_variable C S L t.n _ hLl HD.out.1).mono ?_; rintro e w2 ⟨rfl, hd⟩; have HD2 := Lib.hid (HD.out.trans hd); clear hd; go_wp2; exact bodyPost_ret (v := .tuple #[]) (by simp [results, Try.results41, go_sem]) rfl ⟨rfl, HD2.out⟩
   ·have b1 : (t.k == 1) = false := by simp [k2]
    have b2 : (t.k == 2) = true := by simp [k2]
    have hr := patT_int (one := oneOf C.T) (S := S) k2; rw [hr]; clear hr k2
    go_enter Try.func41, Try.ntmps41
    go_wp2; refine wp_region_rest (by kernel_rfl) ?_; have hdr : Below w.heap.size w (w.alloc (rowT t a cap)).drew := HB.out.drew; have hd2 := Did.below HD.out.1 (show Below (w.alloc (rowT t a cap)).heap.size (w.alloc (rowT t a cap)) (w.alloc (rowT t a cap)).drew from (Below.refl _ _).drew); replace HD := Lib.hid (HD.out.trans hd2); replace HR : Hid ((w.alloc (rowT t a cap)).drew.heap[w.heap.size]? = some (rowT t a cap)) := HR; replace HZ : Hid ((w.alloc (rowT t a cap)).drew.heap.size = w.heap.size + 1) := HZ; clear hd2 hdr x0 x1 x2 x3 HB; generalize (w.alloc (rowT t a cap)).drew = W0 at *; have hpl : C.pb < W0.heap.size := HD.out.1.readLow (.inl rfl); refine rest_opsL 0 7 58 [_, _, _, _, _, _, _] (pk 0 [isV ?a1_0, isV ?a1_1, isV ?a1_2, isV ?a1_3, isV ?a1_4, isV ?a1_5, isV ?a1_6]) (fun _ _ => none) rfl (by kernel_rfl) (by kernel_rfl) rfl (.inr (by kernel_rfl)) ?hS1 ?hop1 ?_
    case hop1 =>
     refine hops_cons ?_ ?_
     ·intro v u hu hs Q' hQ
      simp only [putAll, dstOf]; clear hs; go_wp2; exact ⟨rfl, Below.refl _ _, by (show _ = _; rfl), fun _ h => nomatch h⟩
     refine hops_cons ?_ ?_
     ·intro v u hu hs Q' hQ
      simp only [putAll, dstOf]; have s_0 : v 0 = _ := hs 0 (by kernel_rfl) (by decide) (by decide); clear hs; go_wp2; exact ⟨rfl, Below.refl _ _, by (show _ = _; rfl), fun _ h => nomatch h⟩
     refine hops_cons ?_ ?_
     ·intro v u hu hs Q' hQ
      simp only [putAll, dstOf]; have s_1 : v 1 = _ := hs 1 (by kernel_rfl) (by decide) (by decide); clear hs; go_wp2; exact ⟨rfl, Below.refl _ _, by (show _ = _; rfl), fun _ h => nomatch h⟩
     refine hops_cons ?_ ?_
     ·intro v u hu hs Q' hQ
      simp only [putAll, dstOf]; have s_2 : v 2 = _ := hs 2 (by kernel_rfl) (by decide) (by decide); have c2 := (hu.cell (p := ⟨C.pb, 2, none⟩) hpl).trans HD.out.1.cells.2.2.1; obtain ⟨x0, x1, x2, x3⟩ := row4 ((hu.block w.heap.size (by have := HZ.out; omega)).trans HR.out); clear hs; go_wp2; exact ⟨rfl, Below.refl _ _, by (show _ = _; rfl), fun _ h => nomatch h⟩
     refine hops_cons ?_ ?_
     ·intro v u hu hs Q' hQ
      simp only [putAll, dstOf]; clear hs; go_wp2; exact ⟨rfl, Below.refl _ _, by (show _ = _; rfl), fun _ h => nomatch h⟩
     refine hops_cons ?_ ?_
     ·intro v u hu hs Q' hQ
      simp only [putAll, dstOf]; have s_4 : v 4 = _ := hs 4 (by kernel_rfl) (by decide) (by decide); have c2 := (hu.cell (p := ⟨C.pb, 2, none⟩) hpl).trans HD.out.1.cells.2.2.1; obtain ⟨x0, x1, x2, x3⟩ := row4 ((hu.block w.heap.size (by have := HZ.out; omega)).trans HR.out); clear hs; go_wp2; exact ⟨rfl, Below.refl _ _, by (show _ = _; rfl), fun _ h => nomatch h⟩
     refine hops_cons ?_ ?_
     ·intro v u hu hs Q' hQ
      simp only [putAll, dstOf]; have s_5 : v 5 = _ := hs 5 (by kernel_rfl) (by decide) (by decide); clear hs; go_wp2; exact ⟨rfl, Below.refl _ _, by (show _ = _; rfl), fun _ h => nomatch h⟩
     exact hops_nil
    case hS1 =>
     intro j v u u' hkj hjn h hb
     match j, hkj, hjn, h with
     | 0, _, _, h => exact h
     | 1, _, _, h => exact h
     | 2, _, _, h => exact h
     | 3, _, _, h => exact h
     | 4, _, _, h => exact h
     | 5, _, _, h => exact h
     | 6, _, _, h => exact h
     | q + 7, _, hq, _ => exact absurd hq (by omega)
    intro v u hu hs hap; have s_0 : v 0 = _ := hs 0 (by decide) (by decide); have s_1 : v 1 = _ := hs 1 (by decide) (by decide); have s_2 : v 2 = _ := hs 2 (by decide) (by decide); have s_3 : v 3 = _ := hs 3 (by decide) (by decide); have s_4 : v 4 = _ := hs 4 (by decide) (by decide); have s_5 : v 5 = _ := hs 5 (by decide) (by decide); have s_6 : v 6 = _ := hs 6 (by decide) (by decide); simp only [putAll, dstOf]; refine rest_lineL 7 8 [_] rfl (by kernel_rfl) (by decide) (by decide) (by kernel_rfl) ?_; rw [s_3, s_6]
    go_wp2_with fail
    refine (comp_put C S L ⟨4, 0, t.n, ⟨#[]⟩⟩ _ hLl (Did.below HD.out.1 hu).1).mono ?_; rintro e w2 ⟨rfl, hd⟩; have HD2 := Lib.hid ((HD.out.trans (Did.below HD.out.1 hu)).trans hd); clear hd; go_wp2; refine then_rest (rest_end (by decide) ?_); go_wp2; exact bodyPost_ret (v := .tuple #[]) (by simp [results, Try.results41, go_sem]) rfl ⟨rfl, HD2.out⟩
   ·have b1 : (t.k == 1) = false := by simp [k3]
    have b2 : (t.k == 2) = false := by simp [k3]
    have b3 : (t.k == 3) = true := by simp [k3]
    have hr := patT_atom (one := oneOf C.T) (S := S) k3; rw [hr]; clear hr k3
    go_enter Try.func41, Try.ntmps41
    go_wp2; refine wp_region_rest (by kernel_rfl) ?_; have hdr : Below w.heap.size w (w.alloc (rowT t a cap)).drew := HB.out.drew; have hd2 := Did.below HD.out.1 (show Below (w.alloc (rowT t a cap)).heap.size (w.alloc (rowT t a cap)) (w.alloc (rowT t a cap)).drew from (Below.refl _ _).drew); replace HD := Lib.hid (HD.out.trans hd2); replace HR : Hid ((w.alloc (rowT t a cap)).drew.heap[w.heap.size]? = some (rowT t a cap)) := HR; replace HZ : Hid ((w.alloc (rowT t a cap)).drew.heap.size = w.heap.size + 1) := HZ; clear hd2 hdr x0 x1 x2 x3 HB; generalize (w.alloc (rowT t a cap)).drew = W0 at *; have hpl : C.pb < W0.heap.size := HD.out.1.readLow (.inl rfl); refine rest_opsL 0 7 58 [_, _, _, _, _, _, _] (pk 0 [isV ?a2_0, isV ?a2_1, isV ?a2_2, isV ?a2_3, isV ?a2_4, isV ?a2_5, isV ?a2_6]) (fun _ _ => none) rfl (by kernel_rfl) (by kernel_rfl) rfl (.inr (by kernel_rfl)) ?hS2 ?hop2 ?_
    case hop2 =>
     refine hops_cons ?_ ?_
     ·intro v u hu hs Q' hQ
      simp only [putAll, dstOf]; clear hs; go_wp2; exact ⟨rfl, Below.refl _ _, by (show _ = _; rfl), fun _ h => nomatch h⟩
     refine hops_cons ?_ ?_
     ·intro v u hu hs Q' hQ
      simp only [putAll, dstOf]; have s_0 : v 0 = _ := hs 0 (by kernel_rfl) (by decide) (by decide); clear hs; go_wp2; exact ⟨rfl, Below.refl _ _, by (show _ = _; rfl), fun _ h => nomatch h⟩
     refine hops_cons ?_ ?_
     ·intro v u hu hs Q' hQ
      simp only [putAll, dstOf]; have s_1 : v 1 = _ := hs 1 (by kernel_rfl) (by decide) (by decide); clear hs; go_wp2; exact ⟨rfl, Below.refl _ _, by (show _ = _; rfl), fun _ h => nomatch h⟩
     refine hops_cons ?_ ?_
     ·intro v u hu hs Q' hQ
      simp only [putAll, dstOf]; have s_2 : v 2 = _ := hs 2 (by kernel_rfl) (by decide) (by decide); have c2 := (hu.cell (p := ⟨C.pb, 2, none⟩) hpl).trans HD.out.1.cells.2.2.1; obtain ⟨x0, x1, x2, x3⟩ := row4 ((hu.block w.heap.size (by have := HZ.out; omega)).trans HR.out); clear hs; go_wp2; exact ⟨rfl, Below.refl _ _, by (show _ = _; rfl), fun _ h => nomatch h⟩
     refine hops_cons ?_ ?_
     ·intro v u hu hs Q' hQ
      simp only [putAll, dstOf]; clear hs; go_wp2; exact ⟨rfl, Below.refl _ _, by (show _ = _; rfl), fun _ h => nomatch h⟩
     refine hops_cons ?_ ?_
     ·intro v u hu hs Q' hQ
      simp only [putAll, dstOf]; have s_4 : v 4 = _ := hs 4 (by kernel_rfl) (by decide) (by decide); have c2 := (hu.cell (p := ⟨C.pb, 2, none⟩) hpl).trans HD.out.1.cells.2.2.1; obtain ⟨x0, x1, x2, x3⟩ := row4 ((hu.block w.heap.size (by have := HZ.out; omega)).trans HR.out); clear hs; go_wp2; exact ⟨rfl, Below.refl _ _, by (show _ = _; rfl), fun _ h => nomatch h⟩
     refine hops_cons ?_ ?_
     ·intro v u hu hs Q' hQ
      simp only [putAll, dstOf]; have s_5 : v 5 = _ := hs 5 (by kernel_rfl) (by decide) (by decide); clear hs; go_wp2; exact ⟨rfl, Below.refl _ _, by (show _ = _; rfl), fun _ h => nomatch h⟩
     exact hops_nil
    case hS2 =>
     intro j v u u' hkj hjn h hb
     match j, hkj, hjn, h with
     | 0, _, _, h => exact h
     | 1, _, _, h => exact h
     | 2, _, _, h => exact h
     | 3, _, _, h => exact h
     | 4, _, _, h => exact h
     | 5, _, _, h => exact h
     | 6, _, _, h => exact h
     | q + 7, _, hq, _ => exact absurd hq (by omega)
    intro v u hu hs hap; have s_0 : v 0 = _ := hs 0 (by decide) (by decide); have s_1 : v 1 = _ := hs 1 (by decide) (by decide); have s_2 : v 2 = _ := hs 2 (by decide) (by decide); have s_3 : v 3 = _ := hs 3 (by decide) (by decide); have s_4 : v 4 = _ := hs 4 (by decide) (by decide); have s_5 : v 5 = _ := hs 5 (by decide) (by decide); have s_6 : v 6 = _ := hs 6 (by decide) (by decide); simp only [putAll, dstOf]; refine rest_lineL 7 8 [_] rfl (by kernel_rfl) (by decide) (by decide) (by kernel_rfl) ?_; rw [s_3, s_6]
    go_wp2_with fail
    refine (comp_put C S L ⟨5, 0, 0, t.s⟩ _ hLl (Did.below HD.out.1 hu).1).mono ?_; rintro e w2 ⟨rfl, hd⟩; have HD2 := Lib.hid ((HD.out.trans (Did.below HD.out.1 hu)).trans hd); clear hd; go_wp2; refine then_rest (rest_end (by decide) ?_); go_wp2; exact bodyPost_ret (v := .tuple #[]) (by simp [results, Try.results41, go_sem]) rfl ⟨rfl, HD2.out⟩
   ·have b1 : (t.k == 1) = false := by simp [k4]
    have b2 : (t.k == 2) = false := by simp [k4]
    have b3 : (t.k == 3) = false := by simp [k4]
    have b4 : (t.k == 4) = true := by simp [k4]
    have hr := patT_comp (one := oneOf C.T) (S := S) k4; rw [hr]; clear hr k4
    go_enter Try.func41, Try.ntmps41
    go_wp2; refine wp_region_rest (by kernel_rfl) ?_; have hdr : Below w.heap.size w (w.alloc (rowT t a cap)).drew := HB.out.drew; have hd2 := Did.below HD.out.1 (show Below (w.alloc (rowT t a cap)).heap.size (w.alloc (rowT t a cap)) (w.alloc (rowT t a cap)).drew from (Below.refl _ _).drew); replace HMI : Hid (∀ b, PMine C (w.alloc (rowT t a cap)).drew b → b < w.heap.size) := Lib.hid fun b h => HMI.out b (HD.out.1.mine_below (show Below (w.alloc (rowT t a cap)).heap.size (w.alloc (rowT t a cap)) (w.alloc (rowT t a cap)).drew from (Below.refl _ _).drew) b h)
    replace HD := Lib.hid (HD.out.trans hd2); replace HR : Hid ((w.alloc (rowT t a cap)).drew.heap[w.heap.size]? = some (rowT t a cap)) := HR; replace HZ : Hid ((w.alloc (rowT t a cap)).drew.heap.size = w.heap.size + 1) := HZ; clear hd2 hdr x0 x1 x2 x3 HB; generalize (w.alloc (rowT t a cap)).drew = W0 at *; have hpl : C.pb < W0.heap.size := HD.out.1.readLow (.inl rfl); refine rest_opsL 0 10 58 [_, _, _, _, _, _, _, _, _, _] (pk 0 [isV ?a3_0, isV ?a3_1, isV ?a3_2, isV ?a3_3, isV ?a3_4, isV ?a3_5, isV ?a3_6, isV ?a3_7, isV ?a3_8, isV ?a3_9]) (fun _ _ => none) rfl (by kernel_rfl) (by kernel_rfl) rfl (.inr (by kernel_rfl)) ?hS3 ?hop3 ?_
    case hop3 =>
     refine hops_cons ?_ ?_
     ·intro v u hu hs Q' hQ
      simp only [putAll, dstOf]; clear hs; go_wp2; exact ⟨rfl, Below.refl _ _, by (show _ = _; rfl), fun _ h => nomatch h⟩
     refine hops_cons ?_ ?_
     ·intro v u hu hs Q' hQ
      simp only [putAll, dstOf]; have s_0 : v 0 = _ := hs 0 (by kernel_rfl) (by decide) (by decide); clear hs; go_wp2; exact ⟨rfl, Below.refl _ _, by (show _ = _; rfl), fun _ h => nomatch h⟩
     refine hops_cons ?_ ?_
     ·intro v u hu hs Q' hQ
      simp only [putAll, dstOf]; have s_1 : v 1 = _ := hs 1 (by kernel_rfl) (by decide) (by decide); clear hs; go_wp2; exact ⟨rfl, Below.refl _ _, by (show _ = _; rfl), fun _ h => nomatch h⟩
     refine hops_cons ?_ ?_
     ·intro v u hu hs Q' hQ
      simp only [putAll, dstOf]; have s_2 : v 2 = _ := hs 2 (by kernel_rfl) (by decide) (by decide); have c2 := (hu.cell (p := ⟨C.pb, 2, none⟩) hpl).trans HD.out.1.cells.2.2.1; obtain ⟨x0, x1, x2, x3⟩ := row4 ((hu.block w.heap.size (by have := HZ.out; omega)).trans HR.out); clear hs; go_wp2; exact ⟨rfl, Below.refl _ _, by (show _ = _; rfl), fun _ h => nomatch h⟩
     refine hops_cons ?_ ?_
     ·intro v u hu hs Q' hQ
      simp only [putAll, dstOf]; clear hs; go_wp2; exact ⟨rfl, Below.refl _ _, by (show _ = _; rfl), fun _ h => nomatch h⟩
     refine hops_cons ?_ ?_
     ·intro v u hu hs Q' hQ
      simp only [putAll, dstOf]; have s_4 : v 4 = _ := hs 4 (by kernel_rfl) (by decide) (by decide); have c2 := (hu.cell (p := ⟨C.pb, 2, none⟩) hpl).trans HD.out.1.cells.2.2.1; obtain ⟨x0, x1, x2, x3⟩ := row4 ((hu.block w.heap.size (by have := HZ.out; omega)).trans HR.out); clear hs; go_wp2; exact ⟨rfl, Below.refl _ _, by (show _ = _; rfl), fun _ h => nomatch h⟩
     refine hops_cons ?_ ?_
     ·intro v u hu hs Q' hQ
      simp only [putAll, dstOf]; have s_5 : v 5 = _ := hs 5 (by kernel_rfl) (by decide) (by decide); clear hs; go_wp2; exact ⟨rfl, Below.refl _ _, by (show _ = _; rfl), fun _ h => nomatch h⟩
     refine hops_cons ?_ ?_
     ·intro v u hu hs Q' hQ
      simp only [putAll, dstOf]; clear hs; go_wp2; exact ⟨rfl, Below.refl _ _, by (show _ = _; rfl), fun _ h => nomatch h⟩
     refine hops_cons ?_ ?_
     ·intro v u hu hs Q' hQ
      simp only [putAll, dstOf]; have s_7 : v 7 = _ := hs 7 (by kernel_rfl) (by decide) (by decide); have c2 := (hu.cell (p := ⟨C.pb, 2, none⟩) hpl).trans HD.out.1.cells.2.2.1; obtain ⟨x0, x1, x2, x3⟩ := row4 ((hu.block w.heap.size (by have := HZ.out; omega)).trans HR.out); clear hs; go_wp2; exact ⟨rfl, Below.refl _ _, by (show _ = _; rfl), fun _ h => nomatch h⟩
     refine hops_cons ?_ ?_
     ·intro v u hu hs Q' hQ
      simp only [putAll, dstOf]; have s_6 : v 6 = _ := hs 6 (by kernel_rfl) (by decide) (by decide); have s_8 : v 8 = _ := hs 8 (by kernel_rfl) (by decide) (by decide); clear hs; go_wp2; exact ⟨rfl, Below.refl _ _, by (show _ = _; rfl), fun _ h => nomatch h⟩
     exact hops_nil
    case hS3 =>
     intro j v u u' hkj hjn h hb
     match j, hkj, hjn, h with
     | 0, _, _, h => exact h
     | 1, _, _, h => exact h
     | 2, _, _, h => exact h
     | 3, _, _, h => exact h
     | 4, _, _, h => exact h
     | 5, _, _, h => exact h
     | 6, _, _, h => exact h
     | 7, _, _, h => exact h
     | 8, _, _, h => exact h
     | 9, _, _, h => exact h
     | q + 10, _, hq, _ => exact absurd hq (by omega)
    intro v u hu hs hap; have s_0 : v 0 = _ := hs 0 (by decide) (by decide); have s_1 : v 1 = _ := hs 1 (by decide) (by decide); have s_2 : v 2 = _ := hs 2 (by decide) (by decide); have s_3 : v 3 = _ := hs 3 (by decide) (by decide); have s_4 : v 4 = _ := hs 4 (by decide) (by decide); have s_5 : v 5 = _ := hs 5 (by decide) (by decide); have s_6 : v 6 = _ := hs 6 (by decide) (by decide); have s_7 : v 7 = _ := hs 7 (by decide) (by decide); have s_8 : v 8 = _ := hs 8 (by decide) (by decide); have s_9 : v 9 = _ := hs 9 (by decide) (by decide); simp only [putAll, dstOf]; refine rest_lineL 10 11 [_] rfl (by kernel_rfl) (by decide) (by decide) (by kernel_rfl) ?_; rw [s_3, s_9]
    go_wp2_with fail
    refine (comp_put C S L ⟨6, t.args.length, 0, t.s⟩ _ hLl (Did.below HD.out.1 hu).1).mono ?_; rintro e w2 ⟨rfl, hd⟩; have hmu : ∀ b, PMine C u b → b < w.heap.size := fun b h => HMI.out b (HD.out.1.mine_below hu b h)
    have hst := pa_start (ts := t.args) ((HD.out.trans (Did.below HD.out.1 hu)).trans hd); have hrow2 : w2.heap[w.heap.size]? = some (rowT t a cap) := (hd.2.1.block _ (by have := HZ.out; have := hu.size; omega) fun e => by have := hmu _ e; omega).trans ((hu.block w.heap.size (by have := HZ.out; omega)).trans HR.out); obtain ⟨-, -, -, x3⟩ := row4 hrow2; have HST := Lib.hid hst; have hlen : t.args.length ≤ 1000000000 := by have := len_le t.args; obtain ⟨k, n, s, ar⟩ := t; have := HM.out; simp only [Tm.size, Tm.args] at *; omega
    clear hd hmu hst hrow2 HD HR HZ HMI hu hs hap s_0 s_1 s_2 s_3 s_4 s_5 s_6 s_7 s_8 s_9 hpl; have HSZ : Hid (t.size = sizeL t.args + 1) := Lib.hid (by obtain ⟨k, n, s, ar⟩ := t; simp [Tm.size, Tm.args]); have H1A := Lib.hid H1.out.args; have HMA : Hid (∀ x ∈ t.args, mayT x = true) := Lib.hid fun x hx => may_arg HMY.out hx
    generalize t.args = ts at *; go_wp2; refine then_rest (rest_end (by decide) ?_); go_wp2
    go_loopw [50] (fun vi wr => PaRel C S L ⟨6, ts.length, 0, t.s⟩ ts w vi wr) (fun vi _ => ts.length - (intOf vi).toNat)
    case atStart => exact HST.out
    case round =>
     obtain ⟨q, hq, rfl, hd⟩ := hrel; have HDQ := Lib.hid hd; clear hd HST
     by_cases hql : q < ts.length
     ·obtain ⟨g1, o1, rfl, p1, m1⟩ := (HDQ.out.sl H1A.out HP.out).at q hql
      obtain ⟨c1, d1, x10, x11, x12, x13, i1, l1⟩ := m1.read; have h1s := size_mem hql; have HX := Lib.hid (show ts[q].size ≤ N by have := HN.out; have := HSZ.out; omega); have HMX := Lib.hid (HMA.out ts[q] (List.getElem_mem hql)); have hnx := patL_take (oneOf C.T) S ts q hql
      have HLX : Hid ((L ++ (⟨6, ts.length, 0, t.s⟩ : Ins) :: (patL (oneOf C.T) S (ts.take q)).1).length + ts[q].size ≤ 1000000000) := Lib.hid (by
       have h1 := patL_len (oneOf C.T) (ts.take (q + 1)) S; have h2 := sizeL_take ts (q + 1); have h3 := patL_len (oneOf C.T) (ts.take q) S
       have h4 : sizeL (ts.take q) + ts[q].size ≤ sizeL ts := by
        have e : ts.take (q + 1) = ts.take q ++ [ts[q]] := List.take_succ_eq_append_getElem hql; have e2 := sizeL_app (ts.take q) [ts[q]]; rw [← e] at e2; simp only [sizeL] at e2; omega
       have := HM.out; have := HSZ.out; simp only [List.length_append, List.length_cons]; omega)
      have HNX := Lib.hid hnx; have hbx := below_new wr (rowT ts[q] c1 d1); have hdx := Did.below HDQ.out.1 hbx
      have hmx : ∀ b, P' b → ¬ PMine C (wr.alloc (rowT ts[q] c1 d1)) b := fun b hb e => by
       rcases (HDQ.out.trans hdx).2.2 b e with h | h
       ·exact HP.out b hb h
       ·have := HLOW.out b hb; omega
      have I1 := Lib.hid (i1.below hbx); have HDX := Lib.hid hdx; have HMX2 := Lib.hid hmx; clear m1 i1 hnx h1s hbx hdx hmx; generalize ts[q] = x at *; have hin : (q : Int) < (ts.length : Int) := by omega
      have hin0 : (0 : Int) ≤ (q : Int) := by omega
      go_wp2_with (go_at_call 41
                   refine (IH.out x _ _ _ _ _ HX.out HLX.out HMX.out HDX.out.1 I1.out HMX2.out).mono ?_; rintro e w9 ⟨rfl, hd9⟩; have HD9 := Lib.hid ((HDQ.out.trans HDX.out).trans hd9); clear hd9 x10 x11 x12 x13 l1)
      go_roundw
      case rel => exact ⟨q + 1, by omega, by go_num, by rw [HNX.out]; simpa using HD9.out⟩
      case measure => simp [intOf]; omega
     ·obtain rfl : q = ts.length := by omega
      have hin : decide ((ts.length : Int) < (ts.length : Int)) = false := by simp
      have hd := HDQ.out; rw [List.take_length] at hd; have HDF := Lib.hid hd; clear hd; go_wp2; exact bodyPost_ret (v := .tuple #[]) (by simp [results, Try.results41, go_sem]) rfl ⟨rfl, HDF.out⟩
def bump (T : List (Int × Int)) (n : Int) : List (Int × Int) := mset n ((mget T n).getD 0 + 1) T
def cntMC (D : List Int) : List (Int × Int) := D.foldl bump []
theorem get_bump (T : List (Int × Int)) (m n : Int) : (mget (bump T m) n).getD 0 = (mget T n).getD 0 + if n = m then 1 else 0 := by
 unfold bump
 by_cases h : n = m
 ·rw [if_pos h, h, mget_mset_same]; rfl
 ·rw [if_neg h, mget_mset_other _ _ _ h, Int.add_zero]
theorem get_bumps (n : Int) : ∀ (D : List Int) (T : List (Int × Int)), (mget (D.foldl bump T) n).getD 0 = (mget T n).getD 0 + D.count n
 | [], T => by simp
 | m :: D, T => by
   rw [List.foldl_cons, get_bumps n D, get_bump, List.count_cons]
   by_cases h : n = m
   ·rw [if_pos h, if_pos (by simp [h])]; omega
   ·rw [if_neg h, if_neg (by simpa using fun e => h e.symm)]; omega
theorem get_cntM (D : List Int) (n : Int) : (mget (cntMC D) n).getD 0 = D.count n := by
 have := get_bumps n D []
 simpa [cntMC, mget] using this
theorem cntM_snoc (D : List Int) (n : Int) : cntMC (D ++ [n]) = mset n ((mget (cntMC D) n).getD 0 + 1) (cntMC D) := by simp [cntMC, bump]
theorem occL_app : ∀ (l m : List Tm), occL (l ++ m) = occL l ++ occL m
 | [], m => by simp [occL]
 | t :: l, m => by simp [occL, occL_app l m]
theorem occL_take (ts : List Tm) (q : Nat) (h : q < ts.length) : occL (ts.take (q + 1)) = occL (ts.take q) ++ occT ts[q] := by
 rw [List.take_succ_eq_append_getElem h, occL_app]
 simp [occL]
mutual
theorem occT_len : ∀ t : Tm, (occT t).length ≤ t.size
 | .mk k n s a => by
   have := occL_len a; unfold occT; simp only [Tm.size]
   split
   ·simp; omega
   ·omega
theorem occL_len : ∀ l : List Tm, (occL l).length ≤ sizeL l
 | [] => by simp [occL]
 | t :: l => by
   have h1 := occT_len t; have h2 := occL_len l; simp only [occL, List.length_append, sizeL]; omega
end
theorem occT_var {t : Tm} (h : mayT t = true) (k1 : t.k = 1) : occT t = [t.n] := by
 have := may_var h k1; obtain ⟨k, n, s, a⟩ := t; simp only [Tm.k, Tm.args] at k1 this; subst this
 simp [occT, k1, occL, Tm.n]
theorem occT_not {t : Tm} (k1 : t.k ≠ 1) : occT t = occL t.args := by
 obtain ⟨k, n, s, a⟩ := t; simp only [Tm.k] at k1
 simp [occT, k1, Tm.args]
def CntPost (tb : Nat) (D : List Int) (w : World) (e : Ending) (w' : World) : Prop := e = .returned (.tuple #[]) ∧ IMap w' tb (cntMC D) ∧ Keeps w w' (fun b => b = tb)
def CtRel (tb : Nat) (D : List Int) (ts : List Tm) (w : World) (vi : Value) (wr : World) : Prop := ∃ q : Nat, q ≤ ts.length ∧ vi = .int .i64 q ∧ IMap wr tb (cntMC (D ++ occL (ts.take q))) ∧ Keeps w wr (fun b => b = tb)
theorem comp_count (pb tb : Nat) (y1 y2 : Value) (N : Nat) : ∀ (t : Tm) (v : Value) (P : Nat → Prop) (D : List Int) (w : World), t.size ≤ N → D.length + t.size ≤ 1000000000 → mayT t = true →
 w.heap[pb]? = some (.cells #[.map (some tb), y1, y2] 99 (0, 0)) → IMap w tb (cntMC D) → IsTm w P v t → (∀ b, P b → b ≠ tb) →
 Calls Try.prog 40 #[.pointer (some ⟨pb, 0, none⟩), v] w (CntPost tb (D ++ occT t) w) := by
 induction N with
 | zero => intro t v P D w hN; have := size_pos t; omega
 | succ N ih =>
   intro t v P D w hN hM hmy hrw hm h1 hP; have IH := Lib.hid ih; obtain ⟨P', h1, hP, hlow⟩ : ∃ P' : Nat → Prop, IsTm w P' v t ∧ (∀ b, P' b → b ≠ tb) ∧ ∀ b, P' b → b < w.heap.size := ⟨_, h1.lt, fun b h => hP b h.1, fun b h => h.2⟩; obtain ⟨a, cap, rfl⟩ := h1.form; have hb0 := below_new w (rowT t a cap); have hz0 : (w.alloc (rowT t a cap)).heap.size = w.heap.size + 1 := by simp
   have hrow : (w.alloc (rowT t a cap)).heap[w.heap.size]? = some (rowT t a cap) := heap_alloc_new w _; have htb := hm.lt; have hpb := (Array.getElem?_eq_some_iff.1 hrw).1
   have hne : pb ≠ tb := fun e => by
    obtain ⟨es, c, h, -⟩ := hm; rw [← e, hrw] at h
    simp at h
   obtain ⟨x0, x1, x2, x3⟩ := row4 hrow; have HP := Lib.hid hP; have HLOW := Lib.hid hlow; have H1 := Lib.hid h1; have HB := Lib.hid hb0; have HZ := Lib.hid hz0; have HR := Lib.hid hrow; have HRW := Lib.hid hrw; have HMAP := Lib.hid hm; have HNE := Lib.hid hne; have HMY := Lib.hid hmy; have HN := Lib.hid hN; have HM := Lib.hid hM
   by_cases k1 : t.k = 1
   ·have b1 : (t.k == 1) = true := by simp [k1]
    have hr := occT_var hmy k1; have h0 : t.args.length = 0 := by rw [may_var hmy k1]; rfl
    rw [hr]; have H0 := Lib.hid h0; have hcn : (mget (cntMC D) t.n).getD 0 = D.count t.n := get_cntM D t.n; have hcl : D.count t.n ≤ D.length := List.count_le_length; have hc0 : 0 ≤ (mget (cntMC D) t.n).getD 0 := by omega
    have hc1 : (mget (cntMC D) t.n).getD 0 ≤ 1000000000 := by omega
    have HST := Lib.hid (cntM_snoc D t.n); clear hr k1 ih h1 hb0 hz0 hrow hmy hrw hm hP hlow hN hM hne hcn hcl h0
    go_enter Try.func40, Try.ntmps40
    go_wp2; refine wp_region_rest (by kernel_rfl) ?_; have hdr : Below w.heap.size w (w.alloc (rowT t a cap)).drew := HB.out.drew; replace HR : Hid ((w.alloc (rowT t a cap)).drew.heap[w.heap.size]? = some (rowT t a cap)) := HR; replace HZ : Hid ((w.alloc (rowT t a cap)).drew.heap.size = w.heap.size + 1) := HZ; replace HB := Lib.hid hdr; clear hdr x0 x1 x2 x3; generalize (w.alloc (rowT t a cap)).drew = W0 at *; have HRW0 := Lib.hid ((HB.out.block pb hpb).trans HRW.out); have HM0 := Lib.hid (HMAP.out.below (HB.out.block tb htb)); have hpl : pb < W0.heap.size := by have := HB.out.size; omega
    refine rest_opsL 0 6 28 [_, _, _, _, _, _] (pk 0 [isV ?a4_0, isV ?a4_1, isV ?a4_2, isV ?a4_3, isV ?a4_4, isV ?a4_5]) (fun _ _ => none) rfl (by kernel_rfl) (by kernel_rfl) rfl (.inr (by kernel_rfl)) ?hS4 ?hop4 ?_
    case hop4 =>
     refine hops_cons ?_ ?_
     ·intro v u hu hs Q' hQ
      simp only [putAll, dstOf]; clear hs; go_wp2; exact ⟨rfl, Below.refl _ _, by (show _ = _; rfl), fun _ h => nomatch h⟩
     refine hops_cons ?_ ?_
     ·intro v u hu hs Q' hQ
      simp only [putAll, dstOf]; have s_0 : v 0 = _ := hs 0 (by kernel_rfl) (by decide) (by decide); clear hs; go_wp2; exact ⟨rfl, Below.refl _ _, by (show _ = _; rfl), fun _ h => nomatch h⟩
     refine hops_cons ?_ ?_
     ·intro v u hu hs Q' hQ
      simp only [putAll, dstOf]; have s_1 : v 1 = _ := hs 1 (by kernel_rfl) (by decide) (by decide); clear hs; go_wp2; exact ⟨rfl, Below.refl _ _, by (show _ = _; rfl), fun _ h => nomatch h⟩
     refine hops_cons ?_ ?_
     ·intro v u hu hs Q' hQ
      simp only [putAll, dstOf]; have s_2 : v 2 = _ := hs 2 (by kernel_rfl) (by decide) (by decide); have c0 : u.cell? ⟨pb, 0, none⟩ = some (.map (some tb)) := cell_of_row u pb 0 _ _ _ ((hu.block pb hpl).trans HRW0.out); obtain ⟨x0, x1, x2, x3⟩ := row4 ((hu.block w.heap.size (by have := HZ.out; omega)).trans HR.out); clear hs; go_wp2; exact ⟨rfl, Below.refl _ _, by (show _ = _; rfl), fun _ h => nomatch h⟩
     refine hops_cons ?_ ?_
     ·intro v u hu hs Q' hQ
      simp only [putAll, dstOf]; clear hs; go_wp2; exact ⟨rfl, Below.refl _ _, by (show _ = _; rfl), fun _ h => nomatch h⟩
     refine hops_cons ?_ ?_
     ·intro v u hu hs Q' hQ
      simp only [putAll, dstOf]; have s_4 : v 4 = _ := hs 4 (by kernel_rfl) (by decide) (by decide); have c0 : u.cell? ⟨pb, 0, none⟩ = some (.map (some tb)) := cell_of_row u pb 0 _ _ _ ((hu.block pb hpl).trans HRW0.out); obtain ⟨x0, x1, x2, x3⟩ := row4 ((hu.block w.heap.size (by have := HZ.out; omega)).trans HR.out); clear hs; go_wp2; exact ⟨rfl, Below.refl _ _, by (show _ = _; rfl), fun _ h => nomatch h⟩
     exact hops_nil
    case hS4 =>
     intro j v u u' hkj hjn h hb
     match j, hkj, hjn, h with
     | 0, _, _, h => exact h
     | 1, _, _, h => exact h
     | 2, _, _, h => exact h
     | 3, _, _, h => exact h
     | 4, _, _, h => exact h
     | 5, _, _, h => exact h
     | q + 6, _, hq, _ => exact absurd hq (by omega)
    intro v u hu hs hap; have s_0 : v 0 = _ := hs 0 (by decide) (by decide); have s_1 : v 1 = _ := hs 1 (by decide) (by decide); have s_2 : v 2 = _ := hs 2 (by decide) (by decide); have s_3 : v 3 = _ := hs 3 (by decide) (by decide); have s_4 : v 4 = _ := hs 4 (by decide) (by decide); have s_5 : v 5 = _ := hs 5 (by decide) (by decide); simp only [putAll, dstOf]; refine rest_lineL 6 9 [_, _, _] rfl (by kernel_rfl) (by decide) (by decide) (by kernel_rfl) ?_; rw [s_3, s_5]; have hmu := HM0.out.below (hu.block tb (by have := HB.out.size; omega)); have HMU := Lib.hid hmu; have HBU := Lib.hid (HB.out.trans (hu.mono HB.out.size)); have HRU := Lib.hid ((hu.block w.heap.size (by have := HZ.out; omega)).trans HR.out); have HZU : Hid (w.heap.size + 1 ≤ u.heap.size) := Lib.hid (by have := HZ.out; have := hu.size; omega); clear hmu hu hs hap s_0 s_1 s_2 s_3 s_4 s_5 HRW0 HM0 hpl HR HZ HB
    go_wp2_with (first
     | (with_reducible show wpList _ _ _ (⟨some 15, _, _, _, _, _⟩ :: _) _ _
        refine wpList_imap_one rfl 53 (.tmp 12) (.tmp 14) rfl _ _ _ Try.underlying53 Try.underlying2 tb _ rfl HMU.out t.n rfl (fun _ => by kernel_rfl) ?_)
     | (with_reducible show wpList _ _ _ (⟨none, .mapUpdate _ _ _ _, _, _, _, _⟩ :: _) _ _
        refine wpList_imap_set rfl 53 (.tmp 12) (.tmp 14) (.tmp 16) rfl _ _ _ Try.underlying53 Try.underlying2 tb _ rfl HMU.out t.n rfl ((mget (cntMC D) t.n).getD 0 + 1) (by go_num) ?_; intro w2 hi2 hg2; have hk2 : Keeps w w2 (fun b => b = tb) := (Keeps.of HBU.out).trans (Keeps.grown hg2 (M := fun b => b = tb) fun b e => .inl (Option.some.inj e).symm) fun b h => .inl h
        have hr2 := (hg2.block w.heap.size (by have := HZU.out; omega) fun e => by have := Option.some.inj e; omega).trans HRU.out; obtain ⟨-, -, -, x3⟩ := row4 hr2; rw [H0.out] at x3; have HI2 := Lib.hid hi2; have HK2 := Lib.hid hk2; clear hi2 hg2 hk2 hr2))
    refine then_rest (rest_end (by decide) ?_); go_wp2; refine wp_loop_rounds 1 ?_; rw [rounds_succ]; go_wp2; exact bodyPost_ret (v := .tuple #[]) (by simp [results, Try.results40, go_sem]) rfl ⟨rfl, by rw [HST.out]; exact HI2.out, HK2.out⟩
   ·have b1 : (t.k == 1) = false := by simp [k1]
    have hr := occT_not k1; rw [hr]; have hst : CtRel tb D t.args w (.int .i64 ((0 : Nat) : Int)) (w.alloc (rowT t a cap)) := ⟨0, by omega, rfl, by simpa [occL] using hm.below (hb0.block tb htb), Keeps.of hb0⟩; have HST := Lib.hid hst; have hlen : t.args.length ≤ 1000000000 := by have := len_le t.args; obtain ⟨k, n, s, ar⟩ := t; simp only [Tm.size, Tm.args] at *; omega
    have HSZ : Hid (t.size = sizeL t.args + 1) := Lib.hid (by obtain ⟨k, n, s, ar⟩ := t; simp [Tm.size, Tm.args]); have H1A := Lib.hid h1.args; have HMA : Hid (∀ x ∈ t.args, mayT x = true) := Lib.hid fun x hx => may_arg HMY.out hx
    clear hr k1 ih h1 hb0 hz0 hrow hmy hrw hm hP hlow hN hM hne hst HR HZ HB HMAP; obtain ⟨k, n, s, ts⟩ := t; simp only [rowT, Tm.k, Tm.n, Tm.s, Tm.args] at *
    go_enter Try.func40, Try.ntmps40
    go_wp2
    go_loopw [20] (fun vi wr => CtRel tb D ts w vi wr) (fun vi _ => ts.length - (intOf vi).toNat)
    case atStart => exact HST.out
    case round =>
     obtain ⟨q, hq, rfl, him, hk⟩ := hrel; have HI := Lib.hid him; have HK := Lib.hid hk; clear him hk HST
     by_cases hql : q < ts.length
     ·obtain ⟨g1, o1, rfl, p1, m1⟩ := (H1A.out.imp (w' := wr) (fun _ h => h) fun b hb hlt => HK.out.block b hlt (HP.out b hb)).at q hql
      obtain ⟨c1, d1, x10, x11, x12, x13, i1, l1⟩ := m1.read; have h1s := size_mem hql; have HX := Lib.hid (show ts[q].size ≤ N by have := HN.out; have := HSZ.out; omega); have HMX := Lib.hid (HMA.out ts[q] (List.getElem_mem hql)); have hnx := occL_take ts q hql
      have HLX : Hid ((D ++ occL (ts.take q)).length + ts[q].size ≤ 1000000000) := Lib.hid (by
       have h3 := occL_len (ts.take q); have h2 := sizeL_take ts (q + 1)
       have h4 : sizeL (ts.take q) + ts[q].size ≤ sizeL ts := by
        have e : ts.take (q + 1) = ts.take q ++ [ts[q]] := List.take_succ_eq_append_getElem hql; have e2 := sizeL_app (ts.take q) [ts[q]]; rw [← e] at e2; simp only [sizeL] at e2; omega
       have := HM.out; have := HSZ.out; simp only [List.length_append]; omega)
      have HNX := Lib.hid hnx; have hbx := below_new wr (rowT ts[q] c1 d1); have I1 := Lib.hid (i1.below hbx); have HBX := Lib.hid hbx; have HIX := Lib.hid (HI.out.below (hbx.block tb HI.out.lt)); have HRX := Lib.hid ((hbx.block pb (by have := HK.out.size; omega)).trans ((HK.out.block pb hpb HNE.out).trans HRW.out)); clear m1 i1 hnx h1s hbx; generalize ts[q] = x at *; have hin : (q : Int) < (ts.length : Int) := by omega
      have hin0 : (0 : Int) ≤ (q : Int) := by omega
      go_wp2_with (go_at_call 40
                   refine (IH.out x _ _ _ _ HX.out HLX.out HMX.out HRX.out HIX.out I1.out HP.out).mono ?_; rintro e w9 ⟨rfl, hi9, hk9⟩; have HI9 := Lib.hid hi9; have HK9 := Lib.hid ((HK.out.trans (Keeps.of HBX.out) (M' := fun b => b = tb) fun b h => .inl h).trans hk9 fun b h => .inl h); clear hi9 hk9 x10 x11 x12 x13 l1)
      go_roundw
      case rel => exact ⟨q + 1, by omega, by go_num, by rw [HNX.out, ← List.append_assoc]; exact HI9.out, HK9.out⟩
      case measure => simp [intOf]; omega
     ·obtain rfl : q = ts.length := by omega
      have hin : decide ((ts.length : Int) < (ts.length : Int)) = false := by simp
      have hd := HI.out; rw [List.take_length] at hd; have HDF := Lib.hid hd; clear hd; go_wp2; exact bodyPost_ret (v := .tuple #[]) (by simp [results, Try.results40, go_sem]) rfl ⟨rfl, HDF.out, HK.out⟩
end Go.Proofs.Ytcbijikalfodnaa.Tms
namespace Go.Proofs.Ytcbijikalfodnaa.Tms
open Go Go.RowKit Go.Proofs.Ytcbijikalfodnaa.Reg Go.Proofs.Ytcbijikalfodnaa.Rws
abbrev AnyB : Nat → Prop := fun _ => True
abbrev varV (n : Int) : Value := .agg #[.int .i64 1, .int .i64 n, .string ⟨#[]⟩, .slice none 0 0]
def varT (n : Int) : Tm := .mk 1 n ⟨#[]⟩ []
theorem var_is (w : World) (P : Nat → Prop) (n : Int) : IsTm w P (varV n) (varT n) := IsTm.mk' (t := varT n) (IsSl.nil w P none 0)
theorem IsTm.any {w : World} {P : Nat → Prop} {v : Value} {t : Tm} (h : IsTm w P v t) : IsTm w AnyB v t := h.imp (fun _ _ => trivial) fun _ _ _ => rfl
theorem row1 {w : World} {x : Tm} {a : Option Addr} {c : Nat} (hx : IsTm w AnyB (.agg #[.int .i64 x.k, .int .i64 x.n, .string x.s, .slice a x.args.length c]) x) :
 IsSl (w.alloc (.cells #[.int .i64 x.k, .int .i64 x.n, .string x.s, .slice a x.args.length c] 49 (0, 0))) AnyB (.slice (some ⟨w.heap.size, 0, none⟩) 1 1) [x] := by
 have hb : Below w.heap.size w (w.alloc (.cells #[.int .i64 x.k, .int .i64 x.n, .string x.s, .slice a x.args.length c] 49 (0, 0))) := (Below.refl _ _).alloc (Nat.le_refl _) _; have h := heap_alloc_new w (.cells #[.int .i64 x.k, .int .i64 x.n, .string x.s, .slice a x.args.length c] 49 (0, 0)); exact sl_of_cells (cs := [.int .i64 x.k, .int .i64 x.n, .string x.s, .slice a x.args.length c]) h (CellsOf.cons (hx.below hb) trivial) rfl trivial
theorem row2 {w : World} {x y : Tm} {a a' : Option Addr} {c c' : Nat} (hx : IsTm w AnyB (.agg #[.int .i64 x.k, .int .i64 x.n, .string x.s, .slice a x.args.length c]) x) (hy : IsTm w AnyB (.agg #[.int .i64 y.k, .int .i64 y.n, .string y.s, .slice a' y.args.length c']) y) :
 IsSl (w.alloc (.cells #[.int .i64 x.k, .int .i64 x.n, .string x.s, .slice a x.args.length c, .int .i64 y.k, .int .i64 y.n, .string y.s, .slice a' y.args.length c'] 49 (0, 0))) AnyB (.slice (some ⟨w.heap.size, 0, none⟩) 2 2) [x, y] := by
 have hb : Below w.heap.size w (w.alloc (.cells #[.int .i64 x.k, .int .i64 x.n, .string x.s, .slice a x.args.length c, .int .i64 y.k, .int .i64 y.n, .string y.s, .slice a' y.args.length c'] 49 (0, 0))) := (Below.refl _ _).alloc (Nat.le_refl _) _; have h := heap_alloc_new w (.cells #[.int .i64 x.k, .int .i64 x.n, .string x.s, .slice a x.args.length c, .int .i64 y.k, .int .i64 y.n, .string y.s, .slice a' y.args.length c'] 49 (0, 0)); exact sl_of_cells (cs := [.int .i64 x.k, .int .i64 x.n, .string x.s, .slice a x.args.length c, .int .i64 y.k, .int .i64 y.n, .string y.s, .slice a' y.args.length c']) h (CellsOf.cons (hx.below hb) (CellsOf.cons (hy.below hb) trivial)) rfl trivial
theorem row_on {W W' : World} {b : Nat} {o : Obj} (h : W.heap[b]? = some o) (hb : Below W.heap.size W W') : W'.heap[b]? = some o := (hb.block b (Array.getElem?_eq_some_iff.1 h).1).trans h
structure Fill (w : World) (g n B : Nat) (ts : List Tm) : Prop where
 row : ∃ cs : Array Value, w.heap[g]? = some (.cells cs 49 (0, 0)) ∧ cs.size = n * 4
 got : ∀ i (h : i < ts.length), TmAt w (fun b => B ≤ b ∧ b ≠ g) g (i * 4) ts[i]
theorem Fill.lt {w : World} {g n B : Nat} {ts : List Tm} (h : Fill w g n B ts) : g < w.heap.size := by obtain ⟨cs, h, -⟩ := h.row; exact (Array.getElem?_eq_some_iff.1 h).1
theorem TmAt.imp' {w w' : World} {P P' : Nat → Prop} (hP : ∀ b, P b → P' b) (hw : ∀ b, P b → b < w.heap.size → w'.heap[b]? = w.heap[b]?) (t : Tm) (b o : Nat) (hc : ∀ j < 4, w'.cell? ⟨b, o + j, none⟩ = w.cell? ⟨b, o + j, none⟩) (h : TmAt w P b o t) : TmAt w' P' b o t := by
 obtain ⟨k, n, s, args⟩ := t; unfold TmAt at h ⊢; obtain ⟨a, cap, h0, h1, h2, h3, h4⟩ := h; exact ⟨a, cap, (hc 0 (by omega)).trans h0, (hc 1 (by omega)).trans h1, (hc 2 (by omega)).trans h2, (hc 3 (by omega)).trans h3, ArgsFrom.imp hP hw args a 0 h4⟩
theorem Fill.keep {w w' : World} {g n B : Nat} {ts : List Tm} (h : Fill w g n B ts) (hk : ∀ b, b < w.heap.size → B ≤ b → w'.heap[b]? = w.heap[b]?) (hg : w'.heap[g]? = w.heap[g]?) : Fill w' g n B ts := by
 obtain ⟨cs, h1, h2⟩ := h.row; exact ⟨⟨cs, hg.trans h1, h2⟩, fun i hi => (h.got i hi).imp' (fun _ h => h) (fun b hb hlt => hk b hlt hb.1) _ _ _ fun j _ => World.cell?_of_block (a := ⟨g, i * 4 + j, none⟩) hg⟩
theorem Fill.start {w : World} {g n B : Nat} {cs : Array Value} (h : w.heap[g]? = some (.cells cs 49 (0, 0))) (hs : cs.size = n * 4) : Fill w g n B [] := ⟨⟨cs, h, hs⟩, fun i hi => by simp at hi⟩
theorem four_cells (w : World) (g o : Nat) (x0 x1 x2 x3 : Value) : w.setCells g o [x0, x1, x2, x3] = (((w.setCell ⟨g, o, none⟩ x0).setCell ⟨g, o + 1, none⟩ x1).setCell ⟨g, o + 2, none⟩ x2).setCell ⟨g, o + 3, none⟩ x3 := by
 simp [World.setCells]
theorem Fill.put {w : World} {g n B q : Nat} {ts : List Tm} {t : Tm} {a : Option Addr} {c : Nat} (h : Fill w g n B ts) (hq : ts.length = q) (hn : q < n) (ht : IsTm w (fun b => B ≤ b ∧ b ≠ g) (aggT t a c) t) :
 w.there g (q * 4) 4 ∧ Fill (w.setCells g (q * 4) [.int .i64 t.k, .int .i64 t.n, .string t.s, .slice a t.args.length c]) g n B (ts ++ [t]) ∧
  Keeps w (w.setCells g (q * 4) [.int .i64 t.k, .int .i64 t.n, .string t.s, .slice a t.args.length c]) (fun b => b = g) := by
 obtain ⟨cs, h1, h2⟩ := h.row; have hlt := (Array.getElem?_eq_some_iff.1 h1).1; have e1 := heap_setCell_same w g (q * 4) _ _ (.int .i64 t.k) h1; have e2 := heap_setCell_same _ g (q * 4 + 1) _ _ (.int .i64 t.n) e1; have e3 := heap_setCell_same _ g (q * 4 + 2) _ _ (.string t.s) e2; have e4 := heap_setCell_same _ g (q * 4 + 3) _ _ (.slice a t.args.length c) e3; rw [← four_cells] at e4
 have hoth : ∀ b, b ≠ g → (w.setCells g (q * 4) [.int .i64 t.k, .int .i64 t.n, .string t.s, .slice a t.args.length c]).heap[b]? = w.heap[b]? := fun b hb => by
  rw [four_cells]; exact (Below.heap_setCell _ _ _ _ hb).trans ((Below.heap_setCell _ _ _ _ hb).trans ((Below.heap_setCell _ _ _ _ hb).trans (Below.heap_setCell _ _ _ _ hb)))
 have hsz : (w.setCells g (q * 4) [.int .i64 t.k, .int .i64 t.n, .string t.s, .slice a t.args.length c]).heap.size = w.heap.size := by rw [four_cells]; simp [World.setCell]
 have hcell := fun k => cell_of_row _ g k _ _ _ e4
 refine ⟨fun j hj => ⟨?_, frozen_of_row w g _ _ _ h1⟩, ⟨⟨_, e4, by simp [h2]⟩, fun i hi => ?_⟩, ⟨by rw [four_cells]; rfl, by rw [four_cells]; rfl, by rw [four_cells]; rfl, by omega, fun b _ hb => hoth b hb⟩⟩
 ·rw [cell_of_row w g _ _ _ _ h1, Option.isSome_iff_ne_none]
  intro e; rw [Array.getElem?_eq_none_iff] at e; omega
 ·by_cases hiq : i < ts.length
  ·have e : (ts ++ [t])[i] = ts[i] := List.getElem_append_left hiq
   rw [e]; refine (h.got i hiq).imp' (fun _ h => h) (fun b hb _ => hoth b hb.2) _ _ _ fun j hj => ?_
   rw [hcell, cell_of_row w g _ _ _ _ h1]; simp only [Array.getElem?_setIfInBounds]; rw [if_neg (by omega), if_neg (by omega), if_neg (by omega), if_neg (by omega)]
  ·obtain rfl : i = q := by simp at hi; omega
   have e : (ts ++ [t])[i] = t := by rw [List.getElem_append_right (by omega)]; simp
   rw [e]; have hi4 : i * 4 + 3 < cs.size := by omega
   refine TmAt.mk' (a := a) (cap := c) ?_ ?_ ?_ ?_ ((IsTm.args ht).imp (fun _ h => h) fun b hb _ => hoth b hb.2)
   ·rw [hcell]; simp only [Array.getElem?_setIfInBounds, Array.size_setIfInBounds]; rw [if_neg (by omega), if_neg (by omega), if_neg (by omega), if_pos trivial, if_pos (by omega)]
   ·rw [hcell]; simp only [Array.getElem?_setIfInBounds, Array.size_setIfInBounds]; rw [if_neg (by omega), if_neg (by omega), if_pos trivial, if_pos (by omega)]
   ·rw [hcell]; simp only [Array.getElem?_setIfInBounds, Array.size_setIfInBounds]; rw [if_neg (by omega), if_pos trivial, if_pos (by omega)]
   ·rw [hcell]; simp only [Array.getElem?_setIfInBounds, Array.size_setIfInBounds]; rw [if_pos trivial, if_pos (by omega)]
theorem Fill.sl {w : World} {g n B : Nat} {ts : List Tm} (h : Fill w g n B ts) (hn : ts.length = n) (hB : B ≤ g) : IsSl w (fun b => B ≤ b) (.slice (some ⟨g, 0, none⟩) n n) ts := by
 subst hn; refine IsSl.mk' fun i hi => ⟨g, 0, rfl, hB, ?_⟩
 rw [Nat.zero_add]; exact (h.got i hi).imp' (fun b hb => hb.1) (fun _ _ _ => rfl) _ _ _ fun _ _ => rfl
end Go.Proofs.Ytcbijikalfodnaa.Tms
namespace Go.Proofs.Ytcbijikalfodnaa.Tms
open Go Go.RowKit Go.Proofs.Ytcbijikalfodnaa.Reg Go.Proofs.Ytcbijikalfodnaa.Rws Go.Proofs.Ytcbijikalfodnaa.Cod
def takeN (g : List Ins → Int → Tm × List Ins × Int) : Nat → List Ins → Int → List Tm × List Ins × Int
 | 0, L, x => ([], L, x)
 | n + 1, L, x => ((g L x).1 :: (takeN g n (g L x).2.1 (g L x).2.2).1, (takeN g n (g L x).2.1 (g L x).2.2).2)
theorem sk_split : ∀ (l : List Ins) (n m j : Nat), sk l (n + m) = some j → ∃ a b, sk l n = some a ∧ sk (l.drop a) m = some b ∧ j = a + b
 | l, 0, m, j, h => ⟨0, j, sk_zero l, by simpa using h, by omega⟩
 | [], n + 1, m, j, h => by rw [Nat.add_right_comm] at h; simp [sk] at h
 | i :: l, n + 1, m, j, h => by
   rw [Nat.add_right_comm] at h; simp only [sk] at h ⊢; cases hb : i.bad with
   | true => rw [hb] at h; simp at h
   | false =>
     rw [hb] at h; simp only [Bool.false_eq_true, if_false] at h ⊢; cases h1 : sk l (n + m + i.ar) with
     | none => rw [h1] at h; simp at h
     | some q =>
       rw [h1] at h; simp only [Option.map_some, Option.some.injEq] at h; obtain ⟨a, b, h2, h3, h4⟩ := sk_split l (n + i.ar) m q (by rw [← h1]; congr 1; omega); exact ⟨a + 1, b, by rw [h2]; rfl, by simpa using h3, by omega⟩
end Go.Proofs.Ytcbijikalfodnaa.Tms
namespace Go.Proofs.Ytcbijikalfodnaa.Reg
open Go Go.RowKit Go.Instr
section
variable {P : Program} {ops : Array Oper} {Q : Exit → Act → World → Prop}
theorem YieldsIf.of {S S' : World → Prop} {o : Oper} {v : Value} {a : Act} (h : YieldsIf P ops S o v a) (hS : ∀ w, S' w → S w) : YieldsIf P ops S' o v a := h.imp (fun h => ⟨h.1, fun w hw => h.2 w (hS w hw)⟩) fun h => h
end
section
variable {P : Program} {ops : Array Oper} {Q : Exit → Act → World → Prop}
def putOk (o : Oper) (a : Act) : Bool := match o.dst with
 | some d => decide (d < a.tmps.size)
 | none => false
theorem yields_all {S : World → Prop} {o : Oper} {a a1 : Act} {w : World} (hs : softB P o = true) (hp : putOk o a = true) (hw : S w)
 (h : ∀ u, S u → ∀ E : Exit → Act → World → Prop, (∀ a', a' = a1 → E .normal a' u) → wpList P ops E [o] a u) : ∃ v, YieldsIf P ops S o v a ∧ a1 = a.put o.dst v := by
 unfold putOk at hp
 split at hp
 case h_2 => cases hp
 rename_i d hd
 have hlt : d < a.tmps.size := by simpa using hp
 have each : ∀ u, S u → ∃ v, YieldsIf P ops (fun w' => Below u.heap.size u w') o v a ∧ a1 = a.put o.dst v := fun u hu => by
  have h1 := h u hu (only fun a' w' => w' = u ∧ a' = a1) fun a' e => ⟨rfl, e⟩
  obtain ⟨v, hy, h2⟩ := soft_step (by simpa using hs) (fun _ _ h => h.1) h1; exact ⟨v, hy, h2.2.symm⟩
 have same : ∀ v, a1 = a.put o.dst v → v = a1.tmps.getD d undef := fun v e => by
  rw [e, hd]
  simp [Act.put, hlt]
 obtain ⟨v, hy, e⟩ := each w hw; refine ⟨v, ?_, e⟩; rcases hy with ⟨hwa, -⟩ | hno
 ·refine .inl ⟨hwa, fun u hu => ?_⟩
  obtain ⟨v', hy', e'⟩ := each u hu; have ev : v' = v := (same v' e').trans (same v e).symm; subst ev; rcases hy' with ⟨-, h3⟩ | ⟨h3, -⟩
  ·exact h3 u (Below.refl _ _)
  ·rw [hwa] at h3; cases h3
 ·exact .inr hno
end
section
variable {P : Program} {ops : Array Oper} {Q : Exit → Act → World → Prop}
inductive SN where
 | soft (i : Nat) | one (i : Nat) | two (i j : Nat)
inductive St where
 | soft (o : Oper) | one (o : Oper) | two (o o' : Oper)
def waitB (ops : Array Oper) (i : Nat) (todo : List (Bool × Nat)) : Bool := todo.all fun x => (preds ops x.2).any fun j => j == i || todo.any fun y => y.2 == j
def One (P : Program) (ops : Array Oper) (S : World → Prop) (o : Oper) (C : Act → World → Prop) (a : Act) (w : World) : Prop := ∀ E : Exit → Act → World → Prop, (∀ a' w', S w' ∧ C a' w' → E .normal a' w') → wpList P ops E [o] a w
theorem At.swap {k n : Nat} {done : List Nat} {b b' : Bool} {i j : Nat} {todo : List (Bool × Nat)} {L : Array Bool} (h : At ops k n done ((b, i) :: (b', j) :: todo) L) : At ops k n done ((b', j) :: (b, i) :: todo) L where
 size := h.size
 low := h.low
 high := h.high
 did := h.did
 yet := fun x hx => h.yet x (by simp only [List.mem_cons] at hx ⊢; rcases hx with hx | hx | hx <;> simp [hx])
 all := fun q hq hn => (h.all q hq hn).imp_right fun ⟨x, hx, e⟩ => ⟨x, by simp only [List.mem_cons] at hx ⊢; rcases hx with hx | hx | hx <;> simp [hx], e⟩
 nodup := by
  have := h.nodup; simp only [List.map_cons, List.nodup_cons, List.mem_cons, not_or] at this ⊢; exact ⟨⟨Ne.symm this.1.1, this.2.1⟩, this.1.2, this.2.2⟩
 le := h.le
end
section
variable {P : Program} {ops : Array Oper} {Q : Exit → Act → World → Prop}
inductive Pn where
 | nil | soft (i : Nat) (r : Pn) | one (i : Nat) (r : Pn) | two (i j : Nat) (r s : Pn) | three (i j m : Nat) (r s q : Pn)
inductive Po where
 | nil | soft (o : Oper) (r : Po) | one (o : Oper) (r : Po) | two (o o' : Oper) (r s : Po) | three (o o' o'' : Oper) (r s q : Po)
def flatP : Pn → List (Bool × Nat)
 | .nil => []
 | .soft i r => (false, i) :: flatP r
 | .one i r => (true, i) :: flatP r
 | .two i j r s => (true, i) :: flatP r
 | .three i j m r s q => (true, i) :: flatP r
def fitsP (l : List Oper) : Pn → Po → Prop
 | .nil, .nil => True
 | .soft i r, .soft o s => l[i]? = some o ∧ fitsP l r s
 | .one i r, .one o s => l[i]? = some o ∧ fitsP l r s
 | .two i j r s, .two o o' x y => l[i]? = some o ∧ l[j]? = some o' ∧ fitsP l r x ∧ fitsP l s y
 | .three i j m r s q, .three o o' o'' x y z => l[i]? = some o ∧ l[j]? = some o' ∧ l[m]? = some o'' ∧ fitsP l r x ∧ fitsP l s y ∧ fitsP l q z
 | _, _ => False
def wait2 (ops : Array Oper) (i j : Nat) (todo : List (Bool × Nat)) : Bool := todo.all fun x => x.2 == i || x.2 == j || (preds ops x.2).any fun q => todo.any fun y => y.2 == q
def wait3 (ops : Array Oper) (i j m : Nat) (todo : List (Bool × Nat)) : Bool := todo.all fun x => x.2 == i || x.2 == j || x.2 == m || (preds ops x.2).any fun q => todo.any fun y => y.2 == q
def permB (l m : List (Bool × Nat)) : Bool := l.length == m.length && (l.all fun x => m.any fun y => x.1 == y.1 && x.2 == y.2) && (m.all fun x => l.any fun y => x.1 == y.1 && x.2 == y.2)
def stP (P : Program) (ops : Array Oper) (k : Nat) : List Nat → Pn → Bool
 | _, .nil => true
 | done, .soft i r =>
   (match ops[i]? with
   | some o => (flatP r).all fun x => (preds ops x.2).contains i || (match ops[x.2]? with
     | some ox => o.apart ops ox
     | none => false)
   | none => false) && readyIn ops k done i && stP P ops k (i :: done) r
 | done, .one i r => readyIn ops k done i && waitB ops i (flatP r) && stP P ops k (i :: done) r
 | done, .two i j r s => readyIn ops k done i && readyIn ops k done j && wait2 ops i j ((true, i) :: flatP r) && permB ((true, i) :: flatP r) ((true, j) :: flatP s) && nodupB (((true, j) :: flatP s).map (·.2)) && stP P ops k (i :: done) r && stP P ops k (j :: done) s
 | done, .three i j m r s q => readyIn ops k done i && readyIn ops k done j && readyIn ops k done m && wait3 ops i j m ((true, i) :: flatP r) && permB ((true, i) :: flatP r) ((true, j) :: flatP s) && nodupB (((true, j) :: flatP s).map (·.2)) && permB ((true, i) :: flatP r) ((true, m) :: flatP q) && nodupB (((true, m) :: flatP q).map (·.2)) && stP P ops k (i :: done) r && stP P ops k (j :: done) s && stP P ops k (m :: done) q
def ChainP (P : Program) (ops : Array Oper) (K : Act → World → Prop) (S : World → Prop) : Po → Act → World → Prop
 | .nil, a, w => K a w
 | .soft o r, a, w => S w → ∃ v, YieldsIf P ops S o v a ∧ ChainP P ops K S r (a.put o.dst v) w
 | .one o r, a, w => One P ops S o (ChainP P ops K S r) a w
 | .two o o' r s, a, w => One P ops S o (ChainP P ops K S r) a w ∧ One P ops S o' (ChainP P ops K S s) a w
 | .three o o' o'' r s q, a, w => One P ops S o (ChainP P ops K S r) a w ∧ One P ops S o' (ChainP P ops K S s) a w ∧ One P ops S o'' (ChainP P ops K S q) a w
theorem chainP_nil {K : Act → World → Prop} {S : World → Prop} {a : Act} {w : World} (h : K a w) : ChainP P ops K S .nil a w := h
theorem chainP_soft {K : Act → World → Prop} {S : World → Prop} {a a1 : Act} {w : World} {o : Oper} {r : Po} (hso : softB P o = true) (hp : putOk o a = true)
 (h : ∀ u, S u → ∀ E : Exit → Act → World → Prop, (∀ a', a' = a1 → E .normal a' u) → wpList P ops E [o] a u) (hr : ChainP P ops K S r a1 w) : ChainP P ops K S (.soft o r) a w := fun hS => by
 obtain ⟨v, hy, rfl⟩ := yields_all hso hp hS h; exact ⟨v, hy, hr⟩
theorem chainP_softv {K : Act → World → Prop} {S : World → Prop} {a : Act} {w : World} {o : Oper} {r : Po} (v : Value) (hso : softB P o = true) (hp : putOk o a = true)
 (h : ∀ u, S u → ∀ E : Exit → Act → World → Prop, E .normal (a.put o.dst v) u → wpList P ops E [o] a u) (hr : ChainP P ops K S r (a.put o.dst v) w) : ChainP P ops K S (.soft o r) a w :=
 chainP_soft (a1 := a.put o.dst v) hso hp (fun u hu E hE => h u hu E (hE _ rfl)) hr
theorem cS {K : Act → World → Prop} {S : World → Prop} {a a1 : Act} {w : World} {o : Oper} {r : Po}
 (h : ∀ u, S u → ∀ E : Exit → Act → World → Prop, (∀ a', a' = a1 → E .normal a' u) → wpList P ops E [o] a u) (hr : ChainP P ops K S r a1 w) (hso : softB P o = true := by kernel_rfl) (hp : putOk o a = true := by kernel_rfl) : ChainP P ops K S (.soft o r) a w := chainP_soft hso hp h hr
theorem cV {K : Act → World → Prop} {S : World → Prop} {a : Act} {w : World} {o : Oper} {r : Po} (v : Value)
 (h : ∀ u, S u → ∀ E : Exit → Act → World → Prop, E .normal (a.put o.dst v) u → wpList P ops E [o] a u) (hr : ChainP P ops K S r (a.put o.dst v) w) (hso : softB P o = true := by kernel_rfl) (hp : putOk o a = true := by kernel_rfl) : ChainP P ops K S (.soft o r) a w := chainP_softv v hso hp h hr
theorem chainP_nck {K : Act → World → Prop} {S : World → Prop} {a : Act} {w : World} {o : Oper} {r : Po} (x : Operand) (p : Addr) (ho : o.op = .nilCheck x) (hg : o.guard = none) (hx : a.eval x = .pointer (some p))
 (hr : ChainP P ops K S r (a.put o.dst (.pointer (some p))) w) : ChainP P ops K S (.soft o r) a w := fun _ =>
 ⟨.pointer (some p), .inl ⟨by simp [Region.wanted, hg], fun u _ => by unfold execOp; simp [ho, hx]⟩, hr⟩
theorem chainP_one {K : Act → World → Prop} {S : World → Prop} {a : Act} {w : World} {o : Oper} {r : Po} (h : ∀ E : Exit → Act → World → Prop, (∀ a' w', S w' ∧ ChainP P ops K S r a' w' → E .normal a' w') → wpList P ops E [o] a w) : ChainP P ops K S (.one o r) a w := h
theorem chainP_two {K : Act → World → Prop} {S : World → Prop} {a : Act} {w : World} {o o' : Oper} {r s : Po} (h1 : ∀ E : Exit → Act → World → Prop, (∀ a' w', S w' ∧ ChainP P ops K S r a' w' → E .normal a' w') → wpList P ops E [o] a w)
 (h2 : ∀ E : Exit → Act → World → Prop, (∀ a' w', S w' ∧ ChainP P ops K S s a' w' → E .normal a' w') → wpList P ops E [o'] a w) : ChainP P ops K S (.two o o' r s) a w := ⟨h1, h2⟩
theorem permB_mem {l m : List (Bool × Nat)} (h : permB l m = true) : ∀ x, x ∈ l ↔ x ∈ m := by
 simp only [permB, Bool.and_eq_true, List.all_eq_true, List.any_eq_true, beq_iff_eq] at h; intro x; constructor
 ·intro hx
  obtain ⟨y, hy, e1, e2⟩ := h.1.2 x hx; rw [show x = y from Prod.ext e1 e2]; exact hy
 ·intro hx
  obtain ⟨y, hy, e1, e2⟩ := h.2 x hx; rw [show x = y from Prod.ext e1 e2]; exact hy
theorem At.perm {k n : Nat} {done : List Nat} {l m : List (Bool × Nat)} {L : Array Bool} (h : At ops k n done l L) (hp : permB l m = true) (hn : nodupB (m.map (·.2)) = true) : At ops k n done m L where
 size := h.size
 low := h.low
 high := h.high
 did := h.did
 yet := fun x hx => h.yet x ((permB_mem hp x).2 hx)
 all := fun q hq hn => (h.all q hq hn).imp_right fun ⟨x, hx, e⟩ => ⟨x, (permB_mem hp x).1 hx, e⟩
 nodup := nodupB_spec _ hn
 le := h.le
theorem At.only3 {k n : Nat} {done : List Nat} {i i' : Nat} {todo : List (Bool × Nat)} {L : Array Bool} (h : At ops k n done todo L) (hc : wait2 ops i i' todo = true)
 {j : Nat} (hj : j < n) (hr : j ∈ Region.ready .any ops L) : j = i ∨ j = i' := by
 obtain ⟨hu, o, ho, hall⟩ := mem_ready.1 hr; rcases Nat.lt_or_ge j k with hk | hk
 ·rw [h.low j hk] at hu; cases hu
 rcases h.all j hk hj with hd | ⟨x, hx, e⟩
 ·rw [h.did j hd] at hu; cases hu
 subst e; have := List.all_eq_true.1 hc x hx; simp only [Bool.or_eq_true, beq_iff_eq] at this; rcases this with (h1 | h1) | h1
 ·exact .inl h1
 ·exact .inr h1
 exfalso
 obtain ⟨q, hq, hq2⟩ := List.any_eq_true.1 h1; have hl := preds_listed ho hall q hq; obtain ⟨y, hy, e⟩ := List.any_eq_true.1 hq2; have e : y.2 = q := by simpa using e
 have hqf : L.getD q true = false := by rw [← e]; exact (h.yet y hy).1
 rw [getD_both_true hl] at hqf; cases hqf
theorem At.only4 {k n : Nat} {done : List Nat} {i i' i'' : Nat} {todo : List (Bool × Nat)} {L : Array Bool} (h : At ops k n done todo L) (hc : wait3 ops i i' i'' todo = true)
 {j : Nat} (hj : j < n) (hr : j ∈ Region.ready .any ops L) : j = i ∨ j = i' ∨ j = i'' := by
 obtain ⟨hu, o, ho, hall⟩ := mem_ready.1 hr; rcases Nat.lt_or_ge j k with hk | hk
 ·rw [h.low j hk] at hu; cases hu
 rcases h.all j hk hj with hd | ⟨x, hx, e⟩
 ·rw [h.did j hd] at hu; cases hu
 subst e; have := List.all_eq_true.1 hc x hx; simp only [Bool.or_eq_true, beq_iff_eq] at this; rcases this with ((h1 | h1) | h1) | h1
 ·exact .inl h1
 ·exact .inr (.inl h1)
 ·exact .inr (.inr h1)
 exfalso
 obtain ⟨q, hq, hq2⟩ := List.any_eq_true.1 h1; have hl := preds_listed ho hall q hq; obtain ⟨y, hy, e⟩ := List.any_eq_true.1 hq2; have e : y.2 = q := by simpa using e
 have hqf : L.getD q true = false := by rw [← e]; exact (h.yet y hy).1
 rw [getD_both_true hl] at hqf; cases hqf
theorem chain_anyP {S : World → Prop} {k n : Nat} {K : Act → World → Prop} (hB : backB ops = true) (hsel : Region.noSelect ops = true) : ∀ (gs : Pn) (os : Po) (done : List Nat) (L : Array Bool) (a : Act) (w : World),
 fitsP ops.toList gs os → stP P ops k done gs = true → At ops k n done (flatP gs) L → S w → ChainP P ops K S os a w →
 AnyS P ops n (fun _ => K) S (flatP gs).length L a w := by
 intro gs
 induction gs with
 | nil =>
   intro os done L a w hp _ _ _ h; cases os with
   | nil => exact h
   | _ => exact hp.elim
 | one i gs ih =>
   intro os done L a w hp hc hat hS h; cases os with
   | one o os =>
     obtain ⟨ho, hp⟩ := hp; have ho : ops[i]? = some o := by simpa using ho
     simp only [stP, Bool.and_eq_true] at hc; obtain ⟨⟨hr, ha⟩, hc⟩ := hc; have hx := h (only fun a' w' => S w' ∧ ChainP P ops K S os a' w') fun a' w' hch => hch
     intro j hj hjr; obtain rfl := hat.only ha hj hjr; exact wpOp_mono (fun a' w' h' => ⟨h'.1, ih os _ _ a' w' hp hc hat.next h'.1 h'.2⟩) (wpList_one ho hx)
   | _ => exact hp.elim
 | two i i' gs gs' ih ih' =>
   intro os done L a w hp hc hat hS h; cases os with
   | two o o' os os' =>
     obtain ⟨ho, ho', hp, hp'⟩ := hp; have ho : ops[i]? = some o := by simpa using ho
     have ho' : ops[i']? = some o' := by simpa using ho'
     simp only [stP, Bool.and_eq_true] at hc; obtain ⟨⟨⟨⟨⟨⟨hr, hr'⟩, ha⟩, hpe⟩, hnd⟩, hc⟩, hc'⟩ := hc; obtain ⟨h1, h2⟩ := h; have hx1 := h1 (only fun a' w' => S w' ∧ ChainP P ops K S os a' w') fun a' w' hch => hch
     have hx2 := h2 (only fun a' w' => S w' ∧ ChainP P ops K S os' a' w') fun a' w' hch => hch
     have hat' : At ops k n done ((true, i') :: flatP gs') L := hat.perm hpe hnd
     have hlen : (flatP gs).length = (flatP gs').length := by
      simp only [permB, Bool.and_eq_true, beq_iff_eq, List.length_cons] at hpe; omega
     intro j hj hjr; rcases hat.only3 ha hj hjr with rfl | rfl
     ·exact wpOp_mono (fun a' w' h' => ⟨h'.1, ih os _ _ a' w' hp hc hat.next h'.1 h'.2⟩) (wpList_one ho hx1)
     ·refine wpOp_mono (fun a' w' h' => ⟨h'.1, ?_⟩) (wpList_one ho' hx2)
      have := ih' os' _ _ a' w' hp' hc' hat'.next h'.1 h'.2; rw [← hlen] at this; exact this
   | _ => exact hp.elim
 | three i i' i'' gs gs' gs'' ih ih' ih'' =>
   intro os done L a w hp hc hat hS h; cases os with
   | three o o' o'' os os' os'' =>
     obtain ⟨ho, ho', ho'', hp, hp', hp''⟩ := hp; have ho : ops[i]? = some o := by simpa using ho
     have ho' : ops[i']? = some o' := by simpa using ho'
     have ho'' : ops[i'']? = some o'' := by simpa using ho''
     simp only [stP, Bool.and_eq_true] at hc; obtain ⟨⟨⟨⟨⟨⟨⟨⟨⟨⟨hr, hr'⟩, hr''⟩, ha⟩, hpe⟩, hnd⟩, hpe'⟩, hnd'⟩, hc⟩, hc'⟩, hc''⟩ := hc; obtain ⟨h1, h2, h3⟩ := h; have hx1 := h1 (only fun a' w' => S w' ∧ ChainP P ops K S os a' w') fun a' w' hch => hch
     have hx2 := h2 (only fun a' w' => S w' ∧ ChainP P ops K S os' a' w') fun a' w' hch => hch
     have hx3 := h3 (only fun a' w' => S w' ∧ ChainP P ops K S os'' a' w') fun a' w' hch => hch
     have hat' : At ops k n done ((true, i') :: flatP gs') L := hat.perm hpe hnd; have hat'' : At ops k n done ((true, i'') :: flatP gs'') L := hat.perm hpe' hnd'
     have hlen : (flatP gs).length = (flatP gs').length := by
      simp only [permB, Bool.and_eq_true, beq_iff_eq, List.length_cons] at hpe; omega
     have hlen' : (flatP gs).length = (flatP gs'').length := by
      simp only [permB, Bool.and_eq_true, beq_iff_eq, List.length_cons] at hpe'; omega
     intro j hj hjr; rcases hat.only4 ha hj hjr with rfl | rfl | rfl
     ·exact wpOp_mono (fun a' w' h' => ⟨h'.1, ih os _ _ a' w' hp hc hat.next h'.1 h'.2⟩) (wpList_one ho hx1)
     ·refine wpOp_mono (fun a' w' h' => ⟨h'.1, ?_⟩) (wpList_one ho' hx2)
      have := ih' os' _ _ a' w' hp' hc' hat'.next h'.1 h'.2; rw [← hlen] at this; exact this
     ·refine wpOp_mono (fun a' w' h' => ⟨h'.1, ?_⟩) (wpList_one ho'' hx3)
      have := ih'' os'' _ _ a' w' hp'' hc'' hat''.next h'.1 h'.2; rw [← hlen'] at this; exact this
   | _ => exact hp.elim
 | soft i gs ih =>
   intro os done L a w hp hc hat hS h; cases os with
   | soft o os =>
     obtain ⟨ho, hp⟩ := hp; have ho : ops[i]? = some o := by simpa using ho
     obtain ⟨v, hy, hrest⟩ := h hS; have hcnt := hat.count; simp only [flatP, List.length_cons] at hcnt ⊢; simp only [stP, ho, Bool.and_eq_true] at hc; obtain ⟨⟨hfree, hr⟩, hc⟩ := hc; refine AnyS.first (hat.yet _ (List.mem_cons_self ..)).2.1 ho (Region.noSelect_spec hsel) _ L a w hcnt ?_ (hat.ready hB ho hr) hy hS (ih os _ _ _ w hp hc hat.next hS hrest); intro j oj hjn hoj hji hun hno
     have hjk : k ≤ j := by
      rcases Nat.lt_or_ge j k with h | h
      ·rw [hat.low j h] at hun; cases hun
      ·exact h
     rcases hat.all j hjk hjn with hd | ⟨x, hx, rfl⟩
     ·rw [hat.did j hd] at hun; cases hun
     rcases List.mem_cons.1 hx with rfl | hx
     ·exact absurd rfl hji
     have := List.all_eq_true.1 hfree x hx; simp only [Bool.or_eq_true, hoj] at this; rcases this with hp | hp
     ·exfalso
      simp only [preds, hoj, List.contains_iff_mem, List.mem_map, List.mem_filter] at hp; obtain ⟨e, ⟨he, hb⟩, hon⟩ := hp; exact hno e (by simpa using he) hb hon
     ·exact hp
   | _ => exact hp.elim
theorem rest_chainP (S : World → Prop) (k n : Nat) (gs : Pn) (os : Po) {l : List Oper} (hp : fitsP l gs os)
 (hB : backB l.toArray = true) (hsel : Region.noSelect l.toArray = true) (hc : stP P l.toArray k [] gs = true)
 (hs : (decide (k ≤ n) && decide (n ≤ l.length) && ((flatP gs).all fun x => decide (k ≤ x.2) && decide (x.2 < n)) && ((List.range n).all fun i => decide (i < k) || (flatP gs).any fun x => x.2 == i) && decide ((flatP gs).length = n - k) && nodupB ((flatP gs).map (·.2))) = true)
 (hcut : n = l.toArray.size ∨ cutB l.toArray k n = true) {a : Act} {w : World} (hS : S w)
 (h : ChainP P l.toArray (Rest P l.toArray Q n) S os a w) : Rest P l.toArray Q k a w := by
 simp only [Bool.and_eq_true, decide_eq_true_eq, List.all_eq_true, List.mem_range, Bool.or_eq_true, List.any_eq_true, beq_iff_eq] at hs; obtain ⟨⟨⟨⟨⟨hkn, hnl⟩, hin⟩, hall⟩, hlen⟩, hnd⟩ := hs; replace hnd := nodupB_spec _ hnd; refine rest_anyS (S := S) hB (by simpa using hnl) hkn hcut fun L g hl ht => ?_
 have := chain_anyP (n := n) hB hsel gs os [] L a w (by simpa using hp) hc ⟨g.size, hl, fun i hi hs => ?_, fun i hi => by simp at hi, fun x hx => ?_, fun i hki hi => ?_, hnd, by simpa using hnl⟩ hS h
 ·rw [hlen] at this
  exact this
 ·have := ht i (by omega)
  have hlt : i < L.size := by rw [g.size]; exact hs
  simp [hlt] at this ⊢
  exact this
 ·have hx' := hin x hx
  have := ht x.2 hx'.1; have hlt : x.2 < L.size := by rw [g.size]; simp; omega
  refine ⟨?_, hx'.2, hx'.1⟩
  simp [hlt] at this ⊢
  exact this
 ·rcases hall i hi with h | ⟨x, hx, e⟩
  ·omega
  ·exact .inr ⟨x, hx, e⟩
end
end Go.Proofs.Ytcbijikalfodnaa.Reg
namespace Go.Proofs.Ytcbijikalfodnaa.Tms
open Go Go.RowKit Go.Proofs.Ytcbijikalfodnaa.Reg
end Go.Proofs.Ytcbijikalfodnaa.Tms
namespace Go.Proofs.Ytcbijikalfodnaa.Tms
open Go Go.RowKit Go.Proofs.Ytcbijikalfodnaa.Reg Go.Proofs.Ytcbijikalfodnaa.Rws Go.Proofs.Ytcbijikalfodnaa.Cod
theorem not_bad {i : Ins} (h : i.bad = false) : 1 ≤ i.op ∧ i.op ≤ 6 ∧ (i.op = 6 → 1 ≤ i.a ∧ i.a ≤ 255) := by
 simp [Ins.bad] at h
 omega
theorem sk_one {l : List Ins} {j : Nat} (h : sk l 1 = some j) : ∃ i l' q, l = i :: l' ∧ i.bad = false ∧ sk l' i.ar = some q ∧ j = q + 1 := by
 cases l with
 | nil => simp [sk] at h
 | cons i l =>
   simp only [sk] at h; cases hb : i.bad with
   | true => rw [hb] at h; simp at h
   | false =>
     rw [hb] at h; simp only [Bool.false_eq_true, if_false, Nat.zero_add] at h; cases h1 : sk l i.ar with
     | none => rw [h1] at h; simp at h
     | some q => rw [h1] at h; simp at h; exact ⟨i, l, q, rfl, hb, h1, h.symm⟩
theorem sk_join : ∀ (l : List Ins) (n m a b : Nat), sk l n = some a → sk (l.drop a) m = some b → sk l (n + m) = some (a + b)
 | l, 0, m, a, b, h, h' => by rw [sk_zero] at h; cases h; simpa using h'
 | [], n + 1, m, a, b, h, _ => by simp [sk] at h
 | i :: l, n + 1, m, a, b, h, h' => by
   rw [Nat.add_right_comm]; simp only [sk] at h ⊢; cases hb : i.bad with
   | true => rw [hb] at h; simp at h
   | false =>
     rw [hb] at h; simp only [Bool.false_eq_true, if_false] at h ⊢; cases h1 : sk l (n + i.ar) with
     | none => rw [h1] at h; simp at h
     | some q =>
       rw [h1] at h; simp only [Option.map_some, Option.some.injEq] at h; subst h; have := sk_join l (n + i.ar) m q b h1 (by simpa using h'); rw [show n + m + i.ar = n + i.ar + m by omega, this]
       simp; omega
section
variable {w W W' : World} {kb : Nat} {lv : Value} {L : List Ins} {at_ nx dp : Int}
end
end Go.Proofs.Ytcbijikalfodnaa.Tms
