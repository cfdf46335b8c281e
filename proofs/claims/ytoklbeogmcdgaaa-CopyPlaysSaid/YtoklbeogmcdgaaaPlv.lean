
/-
  The program's Look once more: its Args as a row of the call's own (printed by gen_lko.py).
  A program's store and the reference's store beside it, with what is told of variables on both sides: what each step of one of them leaves of all.
  StorePlays: what is told of variables, plain; New that refuses; the two stores at the start.
-/
import Derived.Test.YtoklbeogmcdgaaaSlb
import Derived.Test.YtoklbeogmcdgaaaRfv8
import Derived.Test.YtoklbeogmcdgaaaRfm8
import Derived.Test.YtoklbeogmcdgaaaRfa
import Derived.Test.YtoklbeogmcdgaaaUnv
import Derived.Test.YtoklbeogmcdgaaaGr8
namespace Go.Proofs.Ytoklbeogmcdgaaa.Tms
open Go Go.RowKit Go.Proofs.Ytoklbeogmcdgaaa.Reg Go.Proofs.Ytoklbeogmcdgaaa.Rws Go.Proofs.Ytoklbeogmcdgaaa.Maps
set_option linter.unusedVariables false
set_option linter.unusedSimpArgs false

end Go.Proofs.Ytoklbeogmcdgaaa.Tms
namespace Go.Proofs.Ytoklbeogmcdgaaa.Tms
open Go Go.RowKit Go.Proofs.Ytoklbeogmcdgaaa.Reg Go.Proofs.Ytoklbeogmcdgaaa.Rws Go.Proofs.Ytoklbeogmcdgaaa.Maps
set_option linter.unusedVariables false
set_option linter.unusedSimpArgs false

/-- the reference's store as a law of its own sees it -/
structure Ref8 (w0 : World) (p : Nat) (S : Sto) (D : Nat → Prop) (w : World) : Prop where
  ref : RefAt w D p S
  own : ∀ b, D b → w0.heap.size ≤ b
  bel : Below w0.heap.size w0 w
section
variable {w0 w w' : World} {p : Nat} {S S' : Sto} {D D' : Nat → Prop}
theorem RefAt.dl (h : RefAt w D p S) : ∀ b, D b → b < w.heap.size := let ⟨_, _, _, h⟩ := h; h.dl
theorem Ref8.dl (h : Ref8 w0 p S D w) : ∀ b, D b → b < w.heap.size := h.ref.dl
theorem Ref8.keeps (h : Ref8 w0 p S D w) {M : Nat → Prop} (hM : ∀ b, M b → D b ∨ w.heap.size ≤ b) (hk : Keeps w w' M) : Below w0.heap.size w0 w' :=
  ⟨hk.os.trans h.bel.os, hk.tape.trans h.bel.tape, hk.output.trans h.bel.output, Nat.le_trans h.bel.size hk.size, fun b hlt => by
    have := h.bel.size
    exact (hk.block b (by omega) fun e => by rcases hM b e with e | e; have := h.own b e; omega; omega).trans (h.bel.block b hlt)⟩
def RefLaw (w0 : World) (p : Nat) (D : Nat → Prop) (w : World) (S' : Sto) (w' : World) : Prop := ∃ D', Ref8 w0 p S' D' w' ∧ Step D w D' w'
theorem Ref8.did (h : Ref8 w0 p S D w) (hd : RefDid w w' D p S') : RefLaw w0 p D w S' w' := by
  obtain ⟨D', h1, h2, h3⟩ := hd
  have hs := h.bel.size
  refine ⟨D', ⟨h1, fun b hb => ?_, h.keeps (fun b hb => .inl hb) h2⟩, h2.size, fun b hb => ⟨⟨fun e => ?_, Nat.lt_of_lt_of_le hb.2 h2.size⟩, h2.block b hb.2 hb.1⟩⟩
  · rcases h3 b hb with e | e
    · exact h.own b e
    · omega
  · rcases h3 b e with e | e
    · exact hb.1 e
    · have := hb.2; omega
theorem Ref8.kept (h : Ref8 w0 p S D w) (h1 : RefAt w' D p S') (h2 : Keeps w w' D) : RefLaw w0 p D w S' w' :=
  ⟨D, ⟨h1, h.own, h.keeps (fun b hb => .inl hb) h2⟩, h2.size, fun b hb => ⟨⟨hb.1, Nat.lt_of_lt_of_le hb.2 h2.size⟩, h2.block b hb.2 hb.1⟩⟩
theorem Ref8.below (h : Ref8 w0 p S D w) (hb : Below w.heap.size w w') : Ref8 w0 p S D w' ∧ Step D w D w' ∧ ∀ b, w.heap.size ≤ b → b < w'.heap.size → Free D w' b :=
  ⟨⟨h.ref.below hb, h.own, h.bel.trans (hb.mono h.bel.size)⟩, ⟨hb.size, fun b hf => ⟨⟨hf.1, Nat.lt_of_lt_of_le hf.2 hb.size⟩, hb.block b hf.2⟩⟩, fun b h1 h2 => ⟨fun e => by have := h.dl b e; omega, h2⟩⟩
theorem Ref8.same (h : Ref8 w0 p S D w) (hb : Below w.heap.size w w') : RefLaw w0 p D w S w' := ⟨D, (h.below hb).1, (h.below hb).2.1⟩
theorem ref8_New (w0 w : World) (hb : Below w0.heap.size w0 w) (n : Int) (h1 : 1 ≤ n) (h2 : n ≤ 16777216) :
    Calls Try.prog 30 #[.int .i64 n] w fun e w' => e = .returned (.tuple #[.pointer (some ⟨w.heap.size, 0, none⟩), .int .i64 0]) ∧ ∃ D', Ref8 w0 w.heap.size ⟨n, [], []⟩ D' w' ∧ Below w.heap.size w w' ∧ ∀ b, b < w.heap.size → Free D' w' b := by
  refine (ref_New n w h1 h2).mono ?_
  rintro e w' ⟨rfl, hs, hb'⟩
  exact ⟨rfl, _, ⟨hs, fun b e => by rw [e]; exact hb.size, hb.trans (hb'.mono hb.size)⟩, hb', fun b hlt => ⟨fun e => by omega, Nat.lt_of_lt_of_le hlt hb'.size⟩⟩
theorem ref8_Bind (h : Ref8 w0 p S D w) (hI : Inv S) (x y : Int) :
    Calls Try.prog 34 #[.pointer (some ⟨p, 0, none⟩), .int .i64 x, .int .i64 y] w fun e w' => e = .returned (.int .i64 (bindE S x y)) ∧ RefLaw w0 p D w (bindW S x y) w' := by
  by_cases hn : ¬ (0 ≤ x ∧ x < S.cells.length) ∨ ¬ (0 ≤ y ∧ y < S.cells.length)
  · refine (ref_Bind_no w h.ref x y hn).mono ?_
    rintro e w' ⟨rfl, rfl⟩
    exact ⟨by unfold bindE; rw [if_pos hn], by unfold bindW; rw [if_pos hn]; exact ⟨D, h, Step.refl _ _⟩⟩
  · have hx : 0 ≤ x ∧ x < S.cells.length := Classical.byContradiction fun e => hn (.inl e)
    have hy : 0 ≤ y ∧ y < S.cells.length := Classical.byContradiction fun e => hn (.inr e)
    unfold bindE bindW
    rw [if_neg hn, if_neg hn]
    obtain ⟨x, rfl⟩ : ∃ k : Nat, x = k := ⟨x.toNat, by omega⟩
    obtain ⟨y, rfl⟩ : ∃ k : Nat, y = k := ⟨y.toNat, by omega⟩
    simp only [Int.toNat_natCast]
    obtain ⟨f1, c1, g1⟩ := hI.stoIn.fol (x := x) (by omega)
    obtain ⟨f2, c2, g2⟩ := hI.stoIn.fol (x := y) (by omega)
    have gk : (S.cells[fol S x]'(c1.end_.1)).k = (cellF S x).k := by
      obtain ⟨h, e⟩ := List.getElem?_eq_some_iff.1 g1
      rw [e]
    by_cases hc : (cellF S x).k = 1 ∧ fol S x ≠ fol S y
    · rw [if_pos hc, if_pos hc.1]
      refine (ref_Bind w h.ref hI.stoOk hI.kindOk f1 f2 x y _ _ c1 c2 (gk.trans hc.1) hc.2).mono ?_
      rintro e w' ⟨rfl, hd⟩
      exact ⟨rfl, h.did hd⟩
    · rw [if_neg hc]
      refine (ref_Bind_id w h.ref hI.kindOk f1 f2 x y _ _ c1 c2 fun e => Classical.byContradiction fun e2 => hc ⟨gk.symm.trans e, e2⟩).mono ?_
      rintro e w' ⟨rfl, rfl⟩
      exact ⟨by rw [gk], D, h, Step.refl _ _⟩
/-- Put without a map of variables -/
theorem law_Put0 (h : Law8 w0 p S D w) (hI : Inv S) {t : Tm} {v : Value} {P : Nat → Prop} (ht : IsTm w P v t) (hP : ∀ b, P b → ¬ D b) (hs : t.size ≤ 20000) :
    Calls Try.prog 17 #[.pointer (some ⟨p, 0, none⟩), v, .map none] w fun e w' => e = .returned (.tuple #[.int .i64 (putA S [] t).1, .int .i64 (putA S [] t).2]) ∧ LawDid w0 p D w (putW S [] t) w' := by
  have hv : VMap w (.map none) [] := .inl ⟨rfl, rfl⟩
  have hd' : ∀ b, Value.map none = .map (some b) → ¬ D b := fun b e => by cases e
  have hsm := hI.small
  unfold putA putW
  by_cases h1 : checkT t ≠ 0
  · simp only [if_pos h1]
    refine (sto_Put_check w h.sto t v none P [] (by omega) ht hv hd' h1).mono ?_
    rintro e w' ⟨rfl, hb⟩
    exact ⟨rfl, D, (h.below hb).1, (h.below hb).2.1⟩
  simp only [if_neg h1]
  have h1' : checkT t = 0 := by simpa using h1
  by_cases h2 : (cntM S [] t).1 = false
  · simp only [if_pos h2]
    refine (sto_Put_arg w h.sto t v none P [] (by omega) ht hv hd' h1' h2).mono ?_
    rintro e w' ⟨rfl, hb⟩
    exact ⟨rfl, D, (h.below hb).1, (h.below hb).2.1⟩
  simp only [if_neg h2]
  have h2' : (cntM S [] t).1 = true := by simpa using h2
  by_cases h3 : S.room - S.cells.length < ((cntM S [] t).2.1 : Int)
  · simp only [if_pos h3]
    refine (sto_Put_full w h.sto t v none P [] (by omega) ht hv hd' (by omega) hI.room0 hI.room h1' h2' h3).mono ?_
    rintro e w' ⟨rfl, hb⟩
    exact ⟨rfl, D, (h.below hb).1, (h.below hb).2.1⟩
  simp only [if_neg h3]
  refine (sto_Put_ok w h.sto t v none P [] (by omega) ht hv hd' hP (by omega) hI.room0 hI.room h1' h2' (by unfold cntM at h3; omega)).mono ?_
  intro e w' hp
  obtain ⟨rfl, hd⟩ := put_nil hp ⟨rfl, rfl⟩
  exact ⟨rfl, h.did hd⟩
end
theorem Step.other {w w' : World} {D D' X : Nat → Prop} (h : Step D w D' w') (hx : ∀ b, X b → ¬ D b ∧ b < w.heap.size) : ∀ b, X b → ¬ D' b ∧ w'.heap[b]? = w.heap[b]? := fun b hb => ⟨(h.blk b (hx b hb)).1.1, (h.blk b (hx b hb)).2⟩
theorem Law8.other {w0 w w' : World} {p : Nat} {S : Sto} {D : Nat → Prop} (h : Law8 w0 p S D w) (hb : Below w0.heap.size w0 w') (hs : w.heap.size ≤ w'.heap.size) (hk : ∀ b, D b → w'.heap[b]? = w.heap[b]?) : Law8 w0 p S D w' :=
  ⟨h.sto.keep hs fun b _ hd => hk b hd, h.own, hb⟩
theorem Ref8.other {w0 w w' : World} {p : Nat} {S : Sto} {D : Nat → Prop} (h : Ref8 w0 p S D w) (hb : Below w0.heap.size w0 w') (hs : w.heap.size ≤ w'.heap.size) (hk : ∀ b, D b → w'.heap[b]? = w.heap[b]?) : Ref8 w0 p S D w' :=
  ⟨h.ref.keep hs fun b _ hd => hk b hd, h.own, hb⟩
/-- the store, the map, the reference's store, its pairs: apart from each other -/
structure PlIn (w0 : World) (p q mb : Nat) (S R : Sto) (M N : List (Int × Int)) (pv : Value) (D E : Nat → Prop) (w : World) : Prop where
  law : Law8 w0 p S D w
  ref : Ref8 w0 q R E w
  vars : VarsAt w0 D mb M w
  prs : Prs w w0.heap.size pv N
  de : ∀ b, D b → ¬ E b
  me : ¬ E mb
  pd : ∀ k, pv.ownBlock = some k → ¬ D k ∧ ¬ E k ∧ k ≠ mb
/-- all that they may write -/
def PlZ (mb : Nat) (pv : Value) (D E : Nat → Prop) (b : Nat) : Prop := D b ∨ E b ∨ b = mb ∨ pv.ownBlock = some b
def PlAt (w0 : World) (p q mb : Nat) (S R : Sto) (M N : List (Int × Int)) (pv : Value) (Z : Nat → Prop) (w : World) : Prop := ∃ D E, PlIn w0 p q mb S R M N pv D E w ∧ ∀ b, Z b ↔ PlZ mb pv D E b
section
variable {w0 w w' : World} {p q mb : Nat} {S R : Sto} {M N : List (Int × Int)} {pv : Value} {Z : Nat → Prop}
theorem PlIn.zl {D E : Nat → Prop} (h : PlIn w0 p q mb S R M N pv D E w) : ∀ b, PlZ mb pv D E b → b < w.heap.size := fun b hb => by
  rcases hb with e | e | e | e
  · exact h.law.dl b e
  · exact h.ref.dl b e
  · rw [e]; exact h.vars.lt
  · exact (h.prs.low b e).2
theorem PlAt.bel (h : PlAt w0 p q mb S R M N pv Z w) : Below w0.heap.size w0 w := let ⟨_, _, h, _⟩ := h; h.law.bel
theorem PlAt.zl (h : PlAt w0 p q mb S R M N pv Z w) : ∀ b, Z b → b < w.heap.size := let ⟨_, _, h, hz⟩ := h; fun b hb => h.zl b ((hz b).1 hb)
theorem PlAt.sto (h : PlAt w0 p q mb S R M N pv Z w) : ∃ D, StoAt w D p S := let ⟨D, _, h, _⟩ := h; ⟨D, h.law.sto⟩
theorem PlAt.ref (h : PlAt w0 p q mb S R M N pv Z w) : ∃ E, RefAt w E q R := let ⟨_, E, h, _⟩ := h; ⟨E, h.ref.ref⟩
theorem PlAt.map (h : PlAt w0 p q mb S R M N pv Z w) : ∃ L, IMapB w mb L ∧ L.Perm M := let ⟨_, _, h, _⟩ := h; h.vars.map
theorem PlAt.prs (h : PlAt w0 p q mb S R M N pv Z w) : Prs w w0.heap.size pv N := let ⟨_, _, h, _⟩ := h; h.prs
theorem PlAt.below (h : PlAt w0 p q mb S R M N pv Z w) (hb : Below w.heap.size w w') : PlAt w0 p q mb S R M N pv Z w' ∧ Step Z w Z w' ∧ ∀ b, w.heap.size ≤ b → b < w'.heap.size → Free Z w' b := by
  have hzl := h.zl
  obtain ⟨D, E, hi, hz⟩ := h
  exact ⟨⟨D, E, ⟨(hi.law.below hb).1, (hi.ref.below hb).1, hi.vars.below hb, Own.below hi.prs hb, hi.de, hi.me, hi.pd⟩, hz⟩, ⟨hb.size, fun b hf => ⟨⟨hf.1, Nat.lt_of_lt_of_le hf.2 hb.size⟩, hb.block b hf.2⟩⟩, fun b h1 h2 => ⟨fun e => by have := hzl b e; omega, h2⟩⟩
theorem PlAt.grown {o : Option Nat} (h : PlAt w0 p q mb S R M N pv Z w) (hg : w.grownBy w' o) (ho : ∀ b, o = some b → ¬ Z b ∧ w0.heap.size ≤ b) : PlAt w0 p q mb S R M N pv Z w' := by
  have hb := h.bel.grown hg h.bel.size fun b e => (ho b e).2
  obtain ⟨D, E, hi, hz⟩ := h
  have hk : ∀ b, PlZ mb pv D E b → w'.heap[b]? = w.heap[b]? := fun b hb => hg.block b (hi.zl b hb) fun e => (ho b e.symm).1 ((hz b).2 hb)
  refine ⟨D, E, ⟨hi.law.other hb hg.size fun b hd => hk b (.inl hd), hi.ref.other hb hg.size fun b hd => hk b (.inr (.inl hd)), ?_, hi.prs.keep hg.size fun b _ hb => ?_, hi.de, hi.me, hi.pd⟩, hz⟩
  · obtain ⟨L, h1, h2⟩ := hi.vars.map
    exact ⟨⟨L, h1.below (hk mb (.inr (.inr (.inl rfl)))), h2⟩, hi.vars.free, hi.vars.base⟩
  · rcases hb with e | e
    · exact e.elim
    · exact hk b (.inr (.inr (.inr e)))
def PlDid (w0 : World) (p q mb : Nat) (Z : Nat → Prop) (w : World) (S R : Sto) (M N : List (Int × Int)) (pv : Value) (w' : World) : Prop := ∃ Z', PlAt w0 p q mb S R M N pv Z' w' ∧ Step Z w Z' w'
/-- the program's store turns -/
theorem PlIn.law_to {D E : Nat → Prop} {S' : Sto} (h : PlIn w0 p q mb S R M N pv D E w) (hd : LawDid w0 p D w S' w') : PlDid w0 p q mb (PlZ mb pv D E) w S' R M N pv w' := by
  obtain ⟨D', h1, h2⟩ := hd
  have hk : ∀ b, PlZ mb pv D E b → ¬ D b → ¬ D' b ∧ w'.heap[b]? = w.heap[b]? := fun b hb hn => ⟨(h2.blk b ⟨hn, h.zl b hb⟩).1.1, (h2.blk b ⟨hn, h.zl b hb⟩).2⟩
  have hE : ∀ b, E b → ¬ D b := fun b e d => h.de b d e
  refine ⟨PlZ mb pv D' E, ⟨D', E, ⟨h1, h.ref.other h1.bel h2.size fun b e => (hk b (.inr (.inl e)) (hE b e)).2, h.vars.step h2, h.prs.keep h2.size fun b _ hb => ?_, fun b d e => (hk b (.inr (.inl e)) (hE b e)).1 d, h.me, fun k e => ⟨(hk k (.inr (.inr (.inr e))) (h.pd k e).1).1, (h.pd k e).2⟩⟩, fun b => Iff.rfl⟩, h2.size, fun b hb => ?_⟩
  · rcases hb with e | e
    · exact e.elim
    · exact (hk b (.inr (.inr (.inr e))) (h.pd b e).1).2
  · have hbd : Free D w b := ⟨fun d => hb.1 (.inl d), hb.2⟩
    refine ⟨⟨fun e => ?_, Nat.lt_of_lt_of_le hb.2 h2.size⟩, (h2.blk b hbd).2⟩
    rcases e with e | e
    · exact (h2.blk b hbd).1.1 e
    · exact hb.1 (.inr e)
/-- the reference's store turns -/
theorem PlIn.ref_to {D E : Nat → Prop} {R' : Sto} (h : PlIn w0 p q mb S R M N pv D E w) (hd : RefLaw w0 q E w R' w') : PlDid w0 p q mb (PlZ mb pv D E) w S R' M N pv w' := by
  obtain ⟨E', h1, h2⟩ := hd
  have hk : ∀ b, PlZ mb pv D E b → ¬ E b → ¬ E' b ∧ w'.heap[b]? = w.heap[b]? := fun b hb hn => ⟨(h2.blk b ⟨hn, h.zl b hb⟩).1.1, (h2.blk b ⟨hn, h.zl b hb⟩).2⟩
  obtain ⟨L, g1, g2⟩ := h.vars.map
  have hmb := hk mb (.inr (.inr (.inl rfl))) h.me
  refine ⟨PlZ mb pv D E', ⟨D, E', ⟨h.law.other h1.bel h2.size fun b e => (hk b (.inl e) (h.de b e)).2, h1, ⟨⟨L, g1.below hmb.2, g2⟩, h.vars.free, h.vars.base⟩, h.prs.keep h2.size fun b _ hb => ?_, fun b d e => (hk b (.inl d) (h.de b d)).1 e, hmb.1, fun k e => ⟨(h.pd k e).1, (hk k (.inr (.inr (.inr e))) (h.pd k e).2.1).1, (h.pd k e).2.2⟩⟩, fun b => Iff.rfl⟩, h2.size, fun b hb => ?_⟩
  · rcases hb with e | e
    · exact e.elim
    · exact (hk b (.inr (.inr (.inr e))) (h.pd b e).2.1).2
  · have hbd : Free E w b := ⟨fun d => hb.1 (.inr (.inl d)), hb.2⟩
    refine ⟨⟨fun e => ?_, Nat.lt_of_lt_of_le hb.2 h2.size⟩, (h2.blk b hbd).2⟩
    rcases e with e | e | e
    · exact hb.1 (.inl e)
    · exact (h2.blk b hbd).1.1 e
    · exact hb.1 (.inr (.inr e))
theorem PlDid.of {Z' : Nat → Prop} {S' R' : Sto} {M' N' : List (Int × Int)} {pv' : Value} (hz : ∀ b, Z b ↔ Z' b) (h : PlDid w0 p q mb Z' w S' R' M' N' pv' w') : PlDid w0 p q mb Z w S' R' M' N' pv' w' := by
  have e : Z = Z' := funext fun b => propext (hz b)
  rw [e]; exact h
theorem PlDid.refl (h : PlAt w0 p q mb S R M N pv Z w) : PlDid w0 p q mb Z w S R M N pv w := ⟨Z, h, Step.refl _ _⟩
theorem PlDid.below (h : PlAt w0 p q mb S R M N pv Z w) (hb : Below w.heap.size w w') : PlDid w0 p q mb Z w S R M N pv w' := ⟨Z, (h.below hb).1, (h.below hb).2.1⟩
/-! ### Each step -/
theorem pl_Bind (h : PlAt w0 p q mb S R M N pv Z w) (hI : Inv S) (x y : Int) :
    Calls Try.prog 22 #[.pointer (some ⟨p, 0, none⟩), .int .i64 x, .int .i64 y] w fun e w' => e = .returned (.int .i64 (bindE S x y)) ∧ PlDid w0 p q mb Z w (bindW S x y) R M N pv w' := by
  obtain ⟨D, E, hi, hz⟩ := h
  refine (law_Bind hi.law hI x y).mono ?_
  rintro e w' ⟨rfl, hd⟩
  exact ⟨rfl, .of hz (hi.law_to hd)⟩
theorem pl_BindR (h : PlAt w0 p q mb S R M N pv Z w) (hI : Inv R) (x y : Int) :
    Calls Try.prog 34 #[.pointer (some ⟨q, 0, none⟩), .int .i64 x, .int .i64 y] w fun e w' => e = .returned (.int .i64 (bindE R x y)) ∧ PlDid w0 p q mb Z w S (bindW R x y) M N pv w' := by
  obtain ⟨D, E, hi, hz⟩ := h
  refine (ref8_Bind hi.ref hI x y).mono ?_
  rintro e w' ⟨rfl, hd⟩
  exact ⟨rfl, .of hz (hi.ref_to hd)⟩
theorem pl_Put (h : PlAt w0 p q mb S R M N pv Z w) (hI : Inv S) (hM : (M.map (·.1)).Nodup) {t : Tm} {v : Value} (ht : IsTm w (Free Z w) v t) (hs : t.size ≤ 20000) :
    Calls Try.prog 17 #[.pointer (some ⟨p, 0, none⟩), v, .map (some mb)] w fun e w' => e = .returned (.tuple #[.int .i64 (putA S M t).1, .int .i64 (putA S M t).2]) ∧ PlDid w0 p q mb Z w (putW S M t) R (M ++ putN S M t) N pv w' := by
  obtain ⟨D, E, hi, hz⟩ := h
  refine (law_PutM hi.law hI hi.vars hM ht (fun b hb e => hb.1 ((hz b).2 (.inl e))) hs).mono ?_
  rintro e w' ⟨rfl, D', h1, h2, hsz, hk⟩
  refine ⟨rfl, .of hz ?_⟩
  have hk' : ∀ b, PlZ mb pv D E b → ¬ D b → b ≠ mb → ¬ D' b ∧ w'.heap[b]? = w.heap[b]? := fun b hb hn hne => ⟨(hk b ⟨hn, hi.zl b hb⟩ hne).1.1, (hk b ⟨hn, hi.zl b hb⟩ hne).2⟩
  have hE : ∀ b, E b → ¬ D b ∧ b ≠ mb := fun b e => ⟨fun d => hi.de b d e, fun e2 => hi.me (e2 ▸ e)⟩
  refine ⟨PlZ mb pv D' E, ⟨D', E, ⟨h1, hi.ref.other h1.bel hsz fun b e => (hk' b (.inr (.inl e)) (hE b e).1 (hE b e).2).2, h2, hi.prs.keep hsz fun b _ hb => ?_, fun b d e => (hk' b (.inr (.inl e)) (hE b e).1 (hE b e).2).1 d, hi.me, fun k e => ⟨(hk' k (.inr (.inr (.inr e))) (hi.pd k e).1 (hi.pd k e).2.2).1, (hi.pd k e).2⟩⟩, fun b => Iff.rfl⟩, hsz, fun b hb => ?_⟩
  · rcases hb with e | e
    · exact e.elim
    · exact (hk' b (.inr (.inr (.inr e))) (hi.pd b e).1 (hi.pd b e).2.2).2
  · have hbd := hk b ⟨fun d => hb.1 (.inl d), hb.2⟩ (fun e => hb.1 (.inr (.inr (.inl e))))
    refine ⟨⟨fun e => ?_, Nat.lt_of_lt_of_le hb.2 hsz⟩, hbd.2⟩
    rcases e with e | e
    · exact hbd.1.1 e
    · exact hb.1 (.inr e)
theorem pl_PutR (h : PlAt w0 p q mb S R M N pv Z w) (hI : Inv R) (hN : ∀ x ∈ N, 0 ≤ x.2) {t : Tm} {v : Value} (ht : IsTm w (Free Z w) v t) (hl : N.length + t.size ≤ 1000000) (hvl : (rvT t).length ≤ 1000000) :
    Calls Try.prog 33 #[.pointer (some ⟨q, 0, none⟩), v, pv] w fun e w' => ∃ pv', e = .returned (.tuple #[.int .i64 (putA R N t).1, pv', .int .i64 (putA R N t).2]) ∧ PlDid w0 p q mb Z w S (putW R N t) M (N ++ putN R N t) pv' w' := by
  obtain ⟨D, E, hi, hz⟩ := h
  have hbz := hi.law.bel.size
  refine (ref_PutV w hi.ref.ref hI hi.prs (fun k e => (hi.pd k e).2.1) hbz hN hl ht (fun b hb => ⟨fun e => hb.1 ((hz b).2 (.inr (.inl e))), fun e => hb.1 ((hz b).2 (.inr (.inr (.inr e))))⟩) hvl).mono ?_
  rintro e w' ⟨pv', E', rfl, hp⟩
  refine ⟨pv', rfl, .of hz ?_⟩
  have hsz := hp.kp.size
  have hbel : Below w0.heap.size w0 w' := ⟨hp.kp.os.trans hi.law.bel.os, hp.kp.tape.trans hi.law.bel.tape, hp.kp.output.trans hi.law.bel.output, Nat.le_trans hbz hsz, fun b hlt => (hp.kp.block b (by omega) fun e => by
    rcases e with e | e
    · have := hi.ref.own b e; omega
    · have := (hi.prs.low b e).1; omega).trans (hi.law.bel.block b hlt)⟩
  have hE' : ∀ b, b < w.heap.size → ¬ E b → ¬ E' b := fun b hb hn e => by
    rcases hp.dn b e with e | e
    · exact hn e
    · omega
  have hD : ∀ b, D b → b < w.heap.size ∧ ¬ E b ∧ ¬ pv.ownBlock = some b := fun b d => ⟨hi.law.dl b d, hi.de b d, fun e => (hi.pd b e).1 d⟩
  have hmb : mb < w.heap.size ∧ ¬ E mb ∧ ¬ pv.ownBlock = some mb := ⟨hi.vars.lt, hi.me, fun e => (hi.pd mb e).2.2 rfl⟩
  have blk : ∀ b, b < w.heap.size ∧ ¬ E b ∧ ¬ pv.ownBlock = some b → w'.heap[b]? = w.heap[b]? := fun b hb => hp.kp.block b hb.1 fun e => by
    rcases e with e | e
    · exact hb.2.1 e
    · exact hb.2.2 e
  obtain ⟨L, g1, g2⟩ := hi.vars.map
  refine ⟨PlZ mb pv' D E', ⟨D, E', ⟨hi.law.other hbel hsz fun b d => blk b (hD b d), ⟨hp.ref, fun b e => ?_, hbel⟩, ⟨⟨L, g1.below (blk mb hmb), g2⟩, hi.vars.free, hi.vars.base⟩, hp.prs, fun b d => hE' b (hD b d).1 (hD b d).2.1, hE' mb hmb.1 hmb.2.1, fun k e => ⟨fun d => ?_, hp.vd k e, fun e2 => ?_⟩⟩, fun b => Iff.rfl⟩, hsz, fun b hb => ?_⟩
  · rcases hp.dn b e with e | e
    · exact hi.ref.own b e
    · omega
  · rcases hp.vo k e with e | e
    · exact (hi.pd k e).1 d
    · have := hi.law.dl k d; omega
  · rcases hp.vo k e with e | e
    · exact (hi.pd k e).2.2 e2
    · omega
  · have hb1 : b < w.heap.size ∧ ¬ E b ∧ ¬ pv.ownBlock = some b := ⟨hb.2, fun e => hb.1 (.inr (.inl e)), fun e => hb.1 (.inr (.inr (.inr e)))⟩
    refine ⟨⟨fun e => ?_, Nat.lt_of_lt_of_le hb.2 hsz⟩, blk b hb1⟩
    rcases e with e | e | e | e
    · exact hb.1 (.inl e)
    · exact hE' b hb1.1 hb1.2.1 e
    · exact hb.1 (.inr (.inr (.inl e)))
    · rcases hp.vo b e with e | e
      · exact hb1.2.2 e
      · omega
end
end Go.Proofs.Ytoklbeogmcdgaaa.Tms
namespace Go.Proofs.Ytoklbeogmcdgaaa.Tms
open Go Go.RowKit Go.Proofs.Ytoklbeogmcdgaaa.Reg Go.Proofs.Ytoklbeogmcdgaaa.Rws Go.Proofs.Ytoklbeogmcdgaaa.Maps
set_option linter.unusedVariables false
set_option linter.unusedSimpArgs false

mutual
theorem putT_pairs {told : Int → Option Int} {T0 : Int} : ∀ (t : Tm) (b : Nat) (F : List (Int × Int)), (∀ x ∈ F, 0 ≤ x.2) → (∀ x ∈ (putT told T0 b F t).2.2, 0 ≤ x.2) ∧ (putT told T0 b F t).2.2.length ≤ F.length + t.size
  | .mk k n s a, b, F, h => by
    by_cases k1 : k = 1
    · rw [putT_var (t := .mk k n s a) k1]
      simp only [Tm.n, Tm.size]
      cases told n with
      | some x => exact ⟨h, by simp only; omega⟩
      | none =>
        cases mget F n with
        | some x => exact ⟨h, by simp only; omega⟩
        | none =>
          refine ⟨fun x hx => ?_, by simp only [List.length_append, List.length_singleton]; omega⟩
          rcases List.mem_append.1 hx with hx | hx
          · exact h x hx
          · simp only [List.mem_singleton] at hx
            rw [hx]
            simp
    · by_cases k4 : k = 4
      · rw [putT_comp (t := .mk k n s a) k4]
        obtain ⟨h1, h2⟩ := putL_pairs (told := told) (T0 := T0) a (b + 1) F h
        simp only [Tm.args, Tm.size]
        exact ⟨h1, by omega⟩
      · rw [putT_leaf (t := .mk k n s a) k1 k4]
        simp only [Tm.size]
        exact ⟨h, by omega⟩
theorem putL_pairs {told : Int → Option Int} {T0 : Int} : ∀ (l : List Tm) (b : Nat) (F : List (Int × Int)), (∀ x ∈ F, 0 ≤ x.2) → (∀ x ∈ (putL told T0 b F l).2.2, 0 ≤ x.2) ∧ (putL told T0 b F l).2.2.length ≤ F.length + sizeL l
  | [], b, F, h => by simp only [putL, sizeL]; exact ⟨h, by omega⟩
  | t :: l, b, F, h => by
    obtain ⟨h1, h2⟩ := putT_pairs (told := told) (T0 := T0) t b F h
    simp only [putL, sizeL]
    obtain ⟨h3, h4⟩ := putL_pairs (told := told) (T0 := T0) l (b + (putT told T0 b F t).2.1.length) _ h1
    exact ⟨h3, by omega⟩
end
/-- each variable is told once, its cell is a number -/
structure KOk (M : List (Int × Int)) : Prop where
  nd : (M.map (·.1)).Nodup
  pos : ∀ x ∈ M, 0 ≤ x.2
theorem KOk.nil : KOk [] := ⟨by simp, by simp⟩
theorem KOk.put {M : List (Int × Int)} (h : KOk M) (S : Sto) (t : Tm) : KOk (M ++ putN S M t) ∧ (M ++ putN S M t).length ≤ M.length + t.size := by
  have hk := put_keys (told := fun n => mget M n) (T0 := lastTop S.cells) t S.cells.length [] (by simp) (fun p hp => by cases hp)
  have hp := putT_pairs (told := fun n => mget M n) (T0 := lastTop S.cells) t S.cells.length [] (by simp)
  have hb : ∀ F : List (Int × Int), F = [] ∨ F = (putR S M t).2.2 → KOk (M ++ F) ∧ (M ++ F).length ≤ M.length + t.size := by
    rintro F (rfl | rfl)
    · rw [List.append_nil]; exact ⟨h, by omega⟩
    · have hk1 : ((putR S M t).2.2.map (·.1)).Nodup := hk.1
      refine ⟨⟨?_, fun x hx => ?_⟩, ?_⟩
      · rw [List.map_append, List.nodup_append]
        refine ⟨h.nd, hk1, fun x hx y hy e => ?_⟩
        obtain ⟨p, hp, rfl⟩ := List.mem_map.1 hx
        obtain ⟨q, hq, rfl⟩ := List.mem_map.1 hy
        exact mget_no (hk.2 q hq) p hp e
      · rcases List.mem_append.1 hx with hx | hx
        · exact h.pos x hx
        · exact hp.1 x hx
      · rw [List.length_append]
        have : (putR S M t).2.2.length ≤ [].length + t.size := hp.2
        simp only [List.length_nil] at this
        omega
  apply hb
  unfold putN
  split
  · exact .inl rfl
  · split
    · exact .inl rfl
    · split
      · exact .inl rfl
      · exact .inr rfl
set_option maxHeartbeats 1600000 in
theorem sto_New_bad (n : Int) (w : World) (h : ¬ (1 ≤ n ∧ n ≤ 16777216)) :
    Calls Try.prog 16 #[.int .i64 n] w fun e w' => e = .returned (.tuple #[.pointer none, .int .i64 2]) ∧ Below w.heap.size w w' := by
  by_cases h1 : n < 1
  · have d1 : decide (n < 1) = true := by simpa using h1
    clear h
    go_enter Try.func16, Try.ntmps16
    go_wp2
    go_ret2
    exact ⟨rfl, Below.refl _ _⟩
  · have d1 : decide (n < 1) = false := by simpa using h1
    have d2 : decide (16777216 < n) = true := by simp; omega
    clear h
    go_enter Try.func16, Try.ntmps16
    go_wp2
    go_ret2
    exact ⟨rfl, Below.refl _ _⟩
set_option maxHeartbeats 1600000 in
theorem ref_New_bad (n : Int) (w : World) (h : ¬ (1 ≤ n ∧ n ≤ 16777216)) :
    Calls Try.prog 30 #[.int .i64 n] w fun e w' => e = .returned (.tuple #[.pointer none, .int .i64 2]) ∧ Below w.heap.size w w' := by
  by_cases h1 : n < 1
  · have d1 : decide (n < 1) = true := by simpa using h1
    clear h
    go_enter Try.func30, Try.ntmps30
    go_wp2
    go_ret2
    exact ⟨rfl, Below.refl _ _⟩
  · have d1 : decide (n < 1) = false := by simpa using h1
    have d2 : decide (16777216 < n) = true := by simp; omega
    clear h
    go_enter Try.func30, Try.ntmps30
    go_wp2
    go_ret2
    exact ⟨rfl, Below.refl _ _⟩
/-- a guarded pointer that leads somewhere is looked at -/
theorem chainP_nckg {P : Program} {ops : Array Oper} {K : Act → World → Prop} {S : World → Prop} {a : Act} {w : World} {o : Oper} {r : Po} (x : Operand) (p : Addr) (ho : o.op = .nilCheck x) (hg : Region.wanted o (yielded ops a.tmps) = true) (hx : a.eval x = .pointer (some p))
    (hr : ChainP P ops K S r (a.put o.dst (.pointer (some p))) w) : ChainP P ops K S (.soft o r) a w := fun _ =>
  ⟨.pointer (some p), .inl ⟨hg, fun u _ => by unfold execOp; simp [ho, hx]⟩, hr⟩
/-- two new stores, a new map -/
theorem pl_start {w0 w3 w4 : World} {p q : Nat} {n : Int} {D E : Nat → Prop} (h3 : Law8 w0 p ⟨n, [], []⟩ D w3) (h4 : Ref8 w0 q ⟨n, [], []⟩ E w4) (hb : Below w3.heap.size w3 w4) (hf : ∀ b, b < w3.heap.size → Free E w4 b) :
    ∃ Z, PlAt w0 p q w4.heap.size ⟨n, [], []⟩ ⟨n, [], []⟩ [] [] (.slice none 0 0) Z (w4.alloc (.map #[] 0)) := by
  have hz := hb.size
  refine ⟨_, D, E, ⟨((h3.below hb).1.below (below_new w4 _)).1, (h4.below (below_new w4 _)).1, ⟨⟨[], IMapB.made w4, List.Perm.refl _⟩, fun e => by have := h3.dl _ e; omega, ?_⟩, Own.nil _ _ _, fun b d => (hf b (h3.dl b d)).1, fun e => by have := h4.dl _ e; omega, fun k e => by cases e⟩, fun b => Iff.rfl⟩
  exact h4.bel.size
/-! ### Look, Follow, Get, whatever cell is asked -/
def inR (S : Sto) (x : Int) : Prop := 0 ≤ x ∧ x < S.cells.length
open Classical in
noncomputable def getL (S : Sto) (x : Int) : Tm × Int := if inR S x then (getT S x.toNat, getE S x.toNat) else (zeroTm, 2)
section
variable {S : Sto} {D : Nat → Prop} {p : Nat}
theorem sto_GetL (w : World) (hS : StoAt w D p S) (hI : Inv S) (x : Int) : Calls Try.prog 20 #[.pointer (some ⟨p, 0, none⟩), .int .i64 x] w (RgPost (getL S x).1 (getL S x).2 w) := by
  by_cases h : inR S x
  · have e : getL S x = (getT S x.toNat, getE S x.toNat) := if_pos h
    rw [e]
    unfold inR at h
    obtain ⟨y, rfl⟩ : ∃ y : Nat, x = (y : Int) := ⟨x.toNat, by omega⟩
    rw [Int.toNat_natCast]
    by_cases h0 : (getG S 2000 y 0).2.1 = 0
    · have e1 : getT S y = (getG S 2000 y 0).1 := if_pos h0
      have e2 : getE S y = 0 := by unfold getE; rw [if_neg (by rw [h0]; simp)]; exact h0
      rw [e1, e2]
      refine (sto_Get_ok w hI.stoIn hS y (by omega) _ (getG S 2000 y 0).2.2 (Prod.ext rfl (Prod.ext h0 rfl))).mono ?_
      rintro e w' ⟨a, c, rfl, hi, hb⟩
      exact ⟨_, rfl, hi, hb⟩
    · have e1 : getT S y = zeroTm := if_neg h0
      rw [e1]
      refine (sto_Get_bad w hI.stoIn hS y (by omega) h0).mono ?_
      rintro e w' ⟨rfl, hb⟩
      exact ⟨_, rfl, zero_tm _ _, hb⟩
  · have e : getL S x = (zeroTm, 2) := if_neg h
    rw [e]
    refine (sto_Get_no w hS x h).mono ?_
    rintro e w' ⟨rfl, hb⟩
    exact ⟨_, rfl, zero_tm _ _, hb⟩
theorem ref_GetL (w : World) (hS : RefAt w D p S) (hI : Inv S) (x : Int) : Calls Try.prog 41 #[.pointer (some ⟨p, 0, none⟩), .int .i64 x] w (RgPost (getL S x).1 (getL S x).2 w) := by
  by_cases h : inR S x
  · have e : getL S x = (getT S x.toNat, getE S x.toNat) := if_pos h
    rw [e]
    unfold inR at h
    obtain ⟨y, rfl⟩ : ∃ y : Nat, x = (y : Int) := ⟨x.toNat, by omega⟩
    rw [Int.toNat_natCast]
    exact ref_Get hI y w hS (by omega)
  · have e : getL S x = (zeroTm, 2) := if_neg h
    rw [e]
    refine (ref_Get_no w hS x h).mono ?_
    rintro e w' ⟨rfl, hb⟩
    exact ⟨_, rfl, zero_tm _ _, hb⟩
end
end Go.Proofs.Ytoklbeogmcdgaaa.Tms
