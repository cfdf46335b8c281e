
/-
  term.rename: a place is put on the stack. Plain.
-/
import Derived.Test.YtilmfkpflecghaaRenS
namespace Go.Proofs.Ytilmfkpflecghaa.Tms
open Go Go.RowKit Go.Proofs.Ytilmfkpflecghaa.Reg Go.Proofs.Ytilmfkpflecghaa.Rws
set_option linter.unusedVariables false

theorem wpList_move {P : Program} {w : World} {ops : Array Oper} {rest : List Oper} {o : Oper} {a : Act} {Q : Exit → Act → World → Prop} (hgd : o.guard = none) (x : Operand) (ho : o.op = .move x) (h : wpList P ops Q rest (a.put o.dst (a.eval x)) w) : wpList P ops Q (o :: rest) a w := by
  refine wpList_plain hgd fun K hK => ?_
  unfold Oper.wp
  simp [execOp, ho]
  exact hK _ _ h
theorem ren_push {V : Vis} {φ : Int → Int} {t : Tm} {w wr w5 : World} {S : Nat → Prop} {D : List (Tm × Int)} {l' : List Plc} {xa : List Tm} {g2 r g4 cp4 n4 : Nat} {v5 : Value} (hst : Stack (w.heap.size + 2) g4 cp4 n4 (l' ++ ((kids g2 0 xa).drop (r + 1)).reverse) wr)
    (hI : RnI V φ t S w D (l' ++ kids g2 0 xa) (l' ++ kids g2 0 xa) wr) (hng : ¬ V.Mine D wr g4) (hq : r + 1 ≤ xa.length)
    (hown : w5.ownsRow (w.heap.size + 2) 161 1 v5 (n4 + 1) ((l' ++ ((kids g2 0 xa).drop (r + 1)).reverse).map ptrOf ++ [.pointer (some ⟨g2, r * 4, none⟩)])) (hg : (wr.alloc (.cells #[.pointer (some ⟨g2, r * 4, none⟩)] 161 (0, 0))).grownBy w5 (Value.slice (some ⟨g4, 0, none⟩) n4 cp4).ownBlock)
    (hv : ∀ k, v5.ownBlock = some k → (Value.slice (some ⟨g4, 0, none⟩) n4 cp4).ownBlock = some k ∨ (wr.alloc (.cells #[.pointer (some ⟨g2, r * 4, none⟩)] 161 (0, 0))).heap.size ≤ k) :
    ∃ g5 cp5, v5 = .slice (some ⟨g5, 0, none⟩) (n4 + 1) cp5 ∧ RnIn V φ t w S D l' xa g2 v5 (.int .i64 ((r : Int) - 1)) w5 := by
  have hba : Below wr.heap.size wr (wr.alloc (.cells #[.pointer (some ⟨g2, r * 4, none⟩)] 161 (0, 0))) := (Below.refl _ _).alloc (Nat.le_refl _) _
  have hsz : (wr.alloc (.cells #[.pointer (some ⟨g2, r * 4, none⟩)] 161 (0, 0))).heap.size = wr.heap.size + 1 := by simp
  generalize wr.alloc (.cells #[.pointer (some ⟨g2, r * 4, none⟩)] 161 (0, 0)) = u at *
  have hg4 := hst.lt
  have hS4 := hI.notS hst
  obtain ⟨cur, -, hB4⟩ := hst.blk
  have hk : Keeps wr w5 (fun b => b = g4) := ⟨hg.os.trans hba.os, hg.tape.trans hba.tape, hg.output.trans hba.output, by have := hg.size; omega, fun b hb hne => (hg.block b (by omega) fun e => hne (Option.some.inj e)).trans (hba.block b hb)⟩
  have hI5 := hI.keep hk fun b _ e => by subst e; exact ⟨hS4, hng, hB4⟩
  have hv5 := V.keep hI.sig hk.size fun b hb hm => hk.block b hb fun e => hng (by rw [← e]; exact hm)
  have hxr : (kids g2 0 xa).drop r = (g2, r * 4, xa[r]) :: (kids g2 0 xa).drop (r + 1) := by
    rw [List.drop_eq_getElem_cons (by rw [kids_len]; omega), kids_get g2 0 xa r (by omega)]
    simp
  have hl : (l' ++ ((kids g2 0 xa).drop r).reverse) = (l' ++ ((kids g2 0 xa).drop (r + 1)).reverse) ++ [(g2, r * 4, xa[r])] := by rw [hxr, List.reverse_cons, List.append_assoc]
  have ho := hown
  obtain ⟨-, h0 | ⟨g5, cp5, cur5, e, -⟩⟩ := hown
  · exact absurd h0.2 (by omega)
  · subst e
    refine ⟨g5, cp5, rfl, r, g5, cp5, n4 + 1, by omega, rfl, rfl, ⟨by rw [hl, List.length_append, hst.len]; rfl, by rw [hl, List.map_append]; exact ho⟩, hI5, fun hm => ?_⟩
    have hm' := hv5.2 _ hm
    rcases hv g5 rfl with h | h
    · have : g4 = g5 := Option.some.inj (show some g4 = some g5 from h)
      exact hng (by rw [this]; exact hm')
    · have := V.low hI.sig hm'; omega
end Go.Proofs.Ytilmfkpflecghaa.Tms
