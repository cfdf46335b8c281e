
/-
  Layer 9's laws with two rounds: what stands beside the round's store; a term that does not lie in a row of bools.
-/
import Derived.Test.YtoklbeogmcdgaaaUns
import Derived.Test.YtoklbeogmcdgaaaUal
import Derived.Test.YtoklbeogmcdgaaaGr9
namespace Go.Proofs.Ytoklbeogmcdgaaa.Tms
open Go Go.RowKit Go.Proofs.Ytoklbeogmcdgaaa.Reg Go.Proofs.Ytoklbeogmcdgaaa.Rws Go.Proofs.Ytoklbeogmcdgaaa.Maps
set_option linter.unusedVariables false
set_option linter.unusedSimpArgs false

/-- where the loop stands: the pair's row, the two answers' row -/
structure SmAt (w : World) (pb ob : Nat) (u1 u2 : Value) (x0 x1 : Bool) (wr : World) : Prop where
  bel : Below w.heap.size w wr
  box : wr.heap[pb]? = some (.cells #[u1, u2] 78 (0, 0))
  oks : wr.heap[ob]? = some (.cells #[.bool x0, .bool x1] 81 (0, 0))
  ne : pb ≠ ob
  ob : w.heap.size ≤ ob
def SmRel9 (w : World) (pb ob : Nat) (u1 u2 : Value) (r0 r1 : Option Bool) (v25 : Value) (wr : World) : Prop :=
  (v25 = .int .i64 ((0 : Nat) : Int) ∧ SmAt w pb ob u1 u2 false false wr) ∨ (v25 = .int .i64 ((1 : Nat) : Int) ∧ r0 ≠ none ∧ SmAt w pb ob u1 u2 (hasB r0) false wr) ∨ (v25 = .int .i64 ((2 : Nat) : Int) ∧ r0 ≠ none ∧ r1 ≠ none ∧ SmAt w pb ob u1 u2 (hasB r0) (hasB r1) wr)
/-- within a round: a store of its own beside these two rows -/
structure RndAt (w : World) (p pb ob : Nat) (u1 u2 : Value) (x0 x1 : Bool) (S : Sto) (D : Nat → Prop) (u : World) : Prop where
  law : Law8 w p S D u
  box : RowF D u pb (.cells #[u1, u2] 78 (0, 0))
  oks : RowF D u ob (.cells #[.bool x0, .bool x1] 81 (0, 0))
  ne : pb ≠ ob
  ob : w.heap.size ≤ ob
section
variable {w u u' : World} {p pb ob : Nat} {u1 u2 : Value} {x0 x1 : Bool} {S S' : Sto} {D D' : Nat → Prop}
theorem RndAt.step (h : RndAt w p pb ob u1 u2 x0 x1 S D u) (hl : Law8 w p S' D' u') (hs : Step D u D' u') : RndAt w p pb ob u1 u2 x0 x1 S' D' u' := ⟨hl, h.box.step hs, h.oks.step hs, h.ne, h.ob⟩
theorem RndAt.below (h : RndAt w p pb ob u1 u2 x0 x1 S D u) (hb : Below u.heap.size u u') : RndAt w p pb ob u1 u2 x0 x1 S D u' := h.step (h.law.below hb).1 (h.law.below hb).2.1
theorem RndAt.put {mb : Nat} (h : RndAt w p pb ob u1 u2 x0 x1 S D u) (hl : Law8 w p S' D' u') (hs : ∀ b, Free D u b → b ≠ mb → Free D' u' b ∧ u'.heap[b]? = u.heap[b]?) (n1 : pb ≠ mb) (n2 : ob ≠ mb) : RndAt w p pb ob u1 u2 x0 x1 S' D' u' :=
  ⟨hl, ⟨(hs pb h.box.1 n1).1, (hs pb h.box.1 n1).2.trans h.box.2⟩, ⟨(hs ob h.oks.1 n2).1, (hs ob h.oks.1 n2).2.trans h.oks.2⟩, h.ne, h.ob⟩
theorem RndAt.end_ (h : RndAt w p pb ob u1 u2 x0 x1 S D u) : SmAt w pb ob u1 u2 x0 x1 u := ⟨h.law.bel, h.box.2, h.oks.2, h.ne, h.ob⟩
theorem RndAt.cells (h : RndAt w p pb ob u1 u2 x0 x1 S D u) : (u.cell? ⟨pb, 0, none⟩ = some u1 ∧ u.cell? ⟨pb, 1, none⟩ = some u2) ∧ (u.cell? ⟨ob, 0, none⟩ = some (.bool x0) ∧ u.cell? ⟨ob, 1, none⟩ = some (.bool x1)) ∧ u.frozen? ⟨ob, 0, none⟩ = false ∧ u.frozen? ⟨ob, 1, none⟩ = false :=
  ⟨⟨by simpa using cell_of_row u pb 0 _ _ _ h.box.2, by simpa using cell_of_row u pb 1 _ _ _ h.box.2⟩, ⟨by simpa using cell_of_row u ob 0 _ _ _ h.oks.2, by simpa using cell_of_row u ob 1 _ _ _ h.oks.2⟩, frozen_of_row u ob 0 _ _ h.oks.2, frozen_of_row u ob 1 _ _ h.oks.2⟩
/-- an answer is kept -/
theorem RndAt.keep {y0 y1 : Bool} {o : Nat} {v : Value} (h : RndAt w p pb ob u1 u2 x0 x1 S D u) (hrow : (u.setCell ⟨ob, o, none⟩ v).heap[ob]? = some (.cells (#[.bool x0, .bool x1].set! (0 + o) v) 81 (0, 0)) → (u.setCell ⟨ob, o, none⟩ v).heap[ob]? = some (.cells #[.bool y0, .bool y1] 81 (0, 0))) :
    RndAt w p pb ob u1 u2 y0 y1 S D (u.setCell ⟨ob, o, none⟩ v) ∧ ∀ b, Free D u b → b ≠ ob → Free D (u.setCell ⟨ob, o, none⟩ v) b ∧ (u.setCell ⟨ob, o, none⟩ v).heap[b]? = u.heap[b]? := by
  have hz : (u.setCell ⟨ob, o, none⟩ v).heap.size = u.heap.size := by simp [World.setCell]
  have hb : ∀ b, b ≠ ob → (u.setCell ⟨ob, o, none⟩ v).heap[b]? = u.heap[b]? := fun b hb => Below.heap_setCell _ _ _ _ hb
  have hr := heap_setCell_same u ob o _ _ v h.oks.2
  have hf : ∀ b, Free D u b → Free D (u.setCell ⟨ob, o, none⟩ v) b := fun b hb => ⟨hb.1, by rw [hz]; exact hb.2⟩
  exact ⟨⟨⟨h.law.sto.keep (by omega) fun b _ hd => hb b fun e => h.oks.1.1 (e ▸ hd), h.law.own, h.law.bel.setCell h.ob _⟩, ⟨hf pb h.box.1, (hb pb h.ne).trans h.box.2⟩, ⟨hf ob h.oks.1, hrow (by simpa using hr)⟩, h.ne, h.ob⟩, fun b hb1 hb2 => ⟨hf b hb1, hb b hb2⟩⟩
end
/-- another row is written -/
theorem RndAt.set {w u : World} {p pb ob r : Nat} {u1 u2 : Value} {x0 x1 : Bool} {S : Sto} {D : Nat → Prop} (h : RndAt w p pb ob u1 u2 x0 x1 S D u) (hr : Free D u r) (hw : w.heap.size ≤ r) (n1 : pb ≠ r) (n2 : ob ≠ r) (cs : Array Value) : RndAt w p pb ob u1 u2 x0 x1 S D (u.setRow r cs) := by
  have hz : (u.setRow r cs).heap.size = u.heap.size := by simp [World.setRow]
  have hb : ∀ b, b ≠ r → (u.setRow r cs).heap[b]? = u.heap[b]? := fun b hb => setRow_other u r b cs hb
  have hf : ∀ b, Free D u b → Free D (u.setRow r cs) b := fun b hb => ⟨hb.1, by rw [hz]; exact hb.2⟩
  exact ⟨⟨h.law.sto.keep (by omega) fun b _ hd => hb b fun e => hr.1 (e ▸ hd), h.law.own, below_setRow h.law.bel hw _⟩, ⟨hf pb h.box.1, (hb pb n1).trans h.box.2⟩, ⟨hf ob h.oks.1, (hb ob n2).trans h.oks.2⟩, h.ne, h.ob⟩
theorem grP_one {A B : List Pt} (h : grP [(A, B)] = false) : A.length ≤ 60 ∧ B.length ≤ 60 := by
  unfold grP prG at h
  simp at h
  omega
/-- a term that was got lies beside the store -/
theorem IsTm.kept {u u' : World} {D D' : Nat → Prop} {ob : Nat} {v : Value} {t : Tm} (h : IsTm u (fun b => Free D u b ∧ b ≠ ob) v t) (hs : ∀ b, Free D u b → b ≠ ob → Free D' u' b ∧ u'.heap[b]? = u.heap[b]?) : IsTm u' (fun b => Free D' u' b ∧ b ≠ ob) v t :=
  h.imp (fun b hb => ⟨(hs b hb.1 hb.2).1, hb.2⟩) fun b hb _ => (hs b hb.1 hb.2).2
mutual
theorem TmAt.apart {w : World} {P : Nat → Prop} {g : Nat} (hz : ∀ o k n, w.cell? ⟨g, o, none⟩ ≠ some (.int k n)) : ∀ (t : Tm) (b o : Nat), TmAt w P b o t → b ≠ g ∧ TmAt w (fun x => P x ∧ x ≠ g) b o t
  | .mk k n s ts, b, o, h => by
    unfold TmAt at h ⊢
    obtain ⟨a, cap, h0, h1, h2, h3, h4⟩ := h
    exact ⟨fun e => by rw [e] at h0; exact hz _ _ _ h0, a, cap, h0, h1, h2, h3, ArgsFrom.apart hz ts a 0 h4⟩
theorem ArgsFrom.apart {w : World} {P : Nat → Prop} {g : Nat} (hz : ∀ o k n, w.cell? ⟨g, o, none⟩ ≠ some (.int k n)) : ∀ (l : List Tm) (q : Option Addr) (j : Nat), ArgsFrom w P q j l → ArgsFrom w (fun x => P x ∧ x ≠ g) q j l
  | [], q, j, h => by unfold ArgsFrom; trivial
  | t :: l, q, j, h => by
    unfold ArgsFrom at h ⊢
    obtain ⟨⟨b, off, e, hb, ht⟩, h2⟩ := h
    obtain ⟨h3, h4⟩ := TmAt.apart hz t b _ ht
    exact ⟨⟨b, off, e, ⟨hb, h3⟩, h4⟩, ArgsFrom.apart hz l q (j + 1) h2⟩
end
/-- a term does not lie in a row of bools -/
theorem IsTm.notrow {w : World} {P : Nat → Prop} {g : Nat} {x0 x1 : Bool} {T : TypeId} {fr : Nat × Nat} {v : Value} {t : Tm} (h : IsTm w P v t) (hg : w.heap[g]? = some (.cells #[.bool x0, .bool x1] T fr)) : IsTm w (fun b => P b ∧ b ≠ g) v t := by
  obtain ⟨a, cap, e, h⟩ := h
  refine ⟨a, cap, e, ArgsFrom.apart (fun o k n hc => ?_) t.args a 0 h⟩
  rw [cell_of_row w g o _ _ _ hg] at hc
  match o, hc with
  | 0, hc => simp at hc
  | 1, hc => simp at hc
  | o + 2, hc => simp at hc
theorem IsTm.kept2 {u u' : World} {D D' : Nat → Prop} {ob N : Nat} {v : Value} {t : Tm} (h : IsTm u (fun b => (Free D u b ∧ b ≠ ob) ∧ b < N) v t) (hs : ∀ b, Free D u b → Free D' u' b ∧ u'.heap[b]? = u.heap[b]?) : IsTm u' (fun b => Free D' u' b ∧ b ≠ ob ∧ b < N) v t :=
  h.imp (fun b hb => ⟨(hs b hb.1.1).1, hb.1.2, hb.2⟩) fun b hb _ => (hs b hb.1.1).2
theorem IsTm.kept3 {u u' : World} {D D' : Nat → Prop} {ob N : Nat} {v : Value} {t : Tm} (h : IsTm u (fun b => Free D u b ∧ b ≠ ob ∧ b < N) v t) (hs : ∀ b, Free D u b → Free D' u' b ∧ u'.heap[b]? = u.heap[b]?) : IsTm u' (fun b => Free D' u' b ∧ b ≠ ob ∧ b < N) v t :=
  h.imp (fun b hb => ⟨(hs b hb.1).1, hb.2⟩) fun b hb _ => (hs b hb.1).2
end Go.Proofs.Ytoklbeogmcdgaaa.Tms
