
/-
  term.rename: what holds while it runs. Plain.
  term.rename: a place is put on the stack. Plain.
-/
import Derived.Test.YtmlceamcpelklaaRen
namespace Go.Proofs.Ytmlceamcpelklaa.Tms
open Go Go.RowKit Go.Proofs.Ytmlceamcpelklaa.Reg Go.Proofs.Ytmlceamcpelklaa.Rws
set_option linter.unusedVariables false

mutual
/-- a term's parts, from the left, each ahead of its Args -/
def flatT : Tm → List (Tm × Int)
  | .mk k n s a => (.mk k n s a, 0) :: flatL a
def flatL : List Tm → List (Tm × Int)
  | [] => []
  | t :: l => flatT t ++ flatL l
end
theorem flatT_eq (t : Tm) : flatT t = (t, 0) :: flatL t.args := by
  obtain ⟨k, n, s, a⟩ := t
  rw [flatT]
  rfl
theorem flatL_app : ∀ l m, flatL (l ++ m) = flatL l ++ flatL m
  | [], m => by simp [flatL]
  | t :: l, m => by simp [flatL, flatL_app l m]
mutual
theorem flatT_parts : ∀ (d : Int) (t : Tm), (flatT t).map Prod.fst = (parts d t).map Prod.fst
  | d, .mk k n s a => by simp [flatT, parts, flatL_parts (d + 1) a]
theorem flatL_parts : ∀ (d : Int) (l : List Tm), (flatL l).map Prod.fst = (partsL d l).map Prod.fst
  | d, [] => by simp [flatL, partsL]
  | d, t :: l => by simp [flatL, partsL, flatT_parts d t, flatL_parts d l]
end
theorem varsD_fst : ∀ {D E : List (Tm × Int)}, D.map Prod.fst = E.map Prod.fst → varsD D = varsD E := by
  have key : ∀ (D E : List (Tm × Int)) (L : List Int), D.map Prod.fst = E.map Prod.fst → D.foldl takeL L = E.foldl takeL L := by
    intro D
    induction D with
    | nil => intro E L h; cases E with
      | nil => rfl
      | cons _ _ => simp at h
    | cons p D ih =>
      intro E L h
      cases E with
      | nil => simp at h
      | cons q E =>
        simp only [List.map_cons, List.cons.injEq] at h
        have e : takeL L p = takeL L q := by unfold takeL; rw [h.1]
        rw [List.foldl_cons, List.foldl_cons, e]
        exact ih E _ h.2
  exact fun {D E} h => key D E [] h
theorem varsT_flat (t : Tm) : varsD (flatT t) = varsT t := varsD_fst (flatT_parts 1 t)
def flatS (l : List Plc) : List (Tm × Int) := flatL (l.map fun x => x.2.2)
theorem flatS_app (l m : List Plc) : flatS (l ++ m) = flatS l ++ flatS m := by simp [flatS, flatL_app]
theorem flatS_kids (g : Nat) : ∀ (j : Nat) (l : List Tm), flatS (kids g j l) = flatL l
  | _, [] => rfl
  | j, t :: l => by
    have := flatS_kids g (j + 1) l
    simp only [flatS, kids, List.map_cons, flatL] at this ⊢
    rw [this]
theorem sumSz_kids (g : Nat) : ∀ (j : Nat) (l : List Tm), sumSz (kids g j l) = sizeL l
  | _, [] => rfl
  | j, t :: l => by simp only [kids, sumSz, sizeL, sumSz_kids g (j + 1) l]
theorem sumSz_rev : ∀ l : List Plc, sumSz l.reverse = sumSz l
  | [] => rfl
  | x :: l => by simp [sumSz, sumSz_app, sumSz_rev l]; omega

theorem Stack.same {B g cap n : Nat} {l : List Plc} {wr w' : World} (h : Stack B g cap n l wr) (hb : w'.heap[g]? = wr.heap[g]?) : Stack B g cap n l w' := by
  refine ⟨h.len, h.owns.1, ?_⟩
  rcases h.owns.2 with h2 | ⟨g', cap', cur, hv, hg, hh, r⟩
  · exact .inl h2
  · refine .inr ⟨g', cap', cur, hv, hg, ?_, r⟩
    have e : g = g' := by simp at hv; exact hv.1
    rw [← e] at hh ⊢
    exact hb.trans hh
theorem Stack.lt {B g cap n : Nat} {l : List Plc} {wr : World} (h : Stack B g cap n l wr) : g < wr.heap.size := by obtain ⟨cur, hc, -⟩ := h.blk; exact (Array.getElem?_eq_some_iff.1 hc).1

def RnRel (V : Vis) (φ : Int → Int) (t : Tm) (w : World) (k : Nat) (v5 : Value) (wr : World) : Prop :=
  ∃ (S : Nat → Prop) (D : List (Tm × Int)) (l : List Plc) (g cap n : Nat), v5 = .slice (some ⟨g, 0, none⟩) n cap ∧ Stack (w.heap.size + 2) g cap n l wr ∧ RnI V φ t S w D l l wr ∧ flatT t = D ++ flatS l.reverse ∧ ¬ V.Mine D wr g ∧ sumSz l ≤ k ∧ k ≤ t.size

theorem RnI.notS {V : Vis} {φ : Int → Int} {t : Tm} {S : Nat → Prop} {w : World} {D : List (Tm × Int)} {H l l2 : List Plc} {wr : World} {B g cap n : Nat} (h : RnI V φ t S w D H l wr) (hs : Stack B g cap n l2 wr) : ¬ S g := fun hS => by
  obtain ⟨-, -, -, cur, hc⟩ := h.rows g hS
  obtain ⟨cur', hc', -⟩ := hs.blk
  rw [hc] at hc'
  simp at hc'

theorem ren_start (V : Vis) (φ : Int → Int) (t : Tm) (w : World) (a : Option Addr) (cap : Nat) (h : IsTm w (Old V w) (.agg #[.int .i64 t.k, .int .i64 t.n, .string t.s, .slice a t.args.length cap]) t) (hs : V.Sig [] w) :
    RnRel V φ t w t.size (.slice (some ⟨w.heap.size + 1 + 1, 0, none⟩) 1 1) (((w.alloc (.cells #[.int .i64 t.k, .int .i64 t.n, .string t.s, .slice a t.args.length cap] 27 (0, 0))).alloc
      (.cells #[.int .i64 0, .int .i64 0, .string ⟨#[]⟩, .slice none 0 0] 27 (0, 0))).alloc (.cells #[.pointer (some ⟨w.heap.size, 0, none⟩)] 155 (0, 0))) := by
  generalize hw1 : w.alloc (.cells #[.int .i64 t.k, .int .i64 t.n, .string t.s, .slice a t.args.length cap] 27 (0, 0)) = w1
  have s1 : w1.heap.size = w.heap.size + 1 := by rw [← hw1]; simp
  have b1 : Below w.heap.size w w1 := by rw [← hw1]; exact (Below.refl _ _).alloc (Nat.le_refl _) _
  have r1 : w1.heap[w.heap.size]? = some (.cells #[.int .i64 t.k, .int .i64 t.n, .string t.s, .slice a t.args.length cap] 27 (0, 0)) := by rw [← hw1]; exact heap_alloc_new _ _
  generalize hw2 : w1.alloc (.cells #[.int .i64 0, .int .i64 0, .string ⟨#[]⟩, .slice none 0 0] 27 (0, 0)) = w2
  have s2 : w2.heap.size = w.heap.size + 2 := by rw [← hw2]; simp [s1]
  have b2 : Below w1.heap.size w1 w2 := by rw [← hw2]; exact (Below.refl _ _).alloc (Nat.le_refl _) _
  have r2 : w2.heap[w.heap.size + 1]? = some (.cells #[.int .i64 0, .int .i64 0, .string ⟨#[]⟩, .slice none 0 0] 27 (0, 0)) := by rw [← hw2, ← s1]; exact heap_alloc_new _ _
  generalize hw3 : w2.alloc (.cells #[.pointer (some ⟨w.heap.size, 0, none⟩)] 155 (0, 0)) = w3
  have s3 : w3.heap.size = w.heap.size + 3 := by rw [← hw3]; simp [s2]
  have b3 : Below w2.heap.size w2 w3 := by rw [← hw3]; exact (Below.refl _ _).alloc (Nat.le_refl _) _
  have b03 : Below w.heap.size w w3 := b1.trans ((b2.mono (by omega)).trans (b3.mono (by omega)))
  have r13 : w3.heap[w.heap.size]? = some (.cells #[.int .i64 t.k, .int .i64 t.n, .string t.s, .slice a t.args.length cap] 27 (0, 0)) := (b3.block _ (by omega)).trans ((b2.block _ (by omega)).trans r1)
  have hv := V.below hs b03
  have hlow : ∀ b, V.Mine [] w3 b → b < w.heap.size := fun b hb => V.low hs (hv.2 b hb)
  have hst : Stack (w.heap.size + 2) (w.heap.size + 1 + 1) 1 1 [(w.heap.size, 0, t)] w3 := ⟨rfl, by
    rw [← hw3, show w.heap.size + 1 + 1 = w2.heap.size by omega]
    exact World.ownsRow_lit w2 _ 1 (by omega) (by decide) rfl⟩
  refine ⟨fun b => b = w.heap.size, [], [(w.heap.size, 0, t)], w.heap.size + 1 + 1, 1, 1, rfl, hst, ⟨?_, ?_, ?_, ?_, ?_, Keeps.of b03, hv.1, fun b hb => .inl (hv.2 b hb), fun hm => by have := hlow _ hm; omega, (b3.block _ (by omega)).trans r2⟩, by simp [flatS, flatL], fun hm => by have := hlow _ hm; omega, by simp [sumSz], Nat.le_refl _⟩
  · rintro b rfl
    exact ⟨by omega, by omega, fun hm => by have := hlow _ hm; omega, _, r13⟩
  · exact rd_hole rfl (by omega) (by simp [holes])
  · intro x hx
    simp only [List.mem_singleton] at hx
    subst hx
    exact ⟨rfl, by simp⟩
  · simp
  · intro x hx
    simp only [List.mem_singleton] at hx
    subst hx
    refine ⟨rfl, by simp, a, cap, cell_of_row w3 _ _ _ _ _ r13, cell_of_row w3 _ _ _ _ _ r13, cell_of_row w3 _ _ _ _ _ r13, cell_of_row w3 _ _ _ _ _ r13, ?_⟩
    obtain ⟨a', c', e, h'⟩ := h
    simp at e
    obtain ⟨rfl, rfl⟩ := e
    exact ArgsFrom.imp (fun _ h => h) (fun b hb hlt => b03.block b hlt) _ _ _ h'

/-- a row of the program's own, that may be written -/
def Plain (w : World) (b : Nat) : Prop := ∃ cur, w.heap[b]? = some (.cells cur 27 (0, 0))
/-- what the call leaves -/
def RenPost (V : Vis) (φ : Int → Int) (t : Tm) (w : World) (e : Ending) (w' : World) : Prop :=
  ∃ v, e = .returned v ∧ IsTm w' (fun b => w.heap.size ≤ b ∧ ¬ V.Mine (flatT t) w' b ∧ Plain w' b) v (renT φ t) ∧ V.Sig (flatT t) w' ∧ Keeps w w' (V.Mine [] w) ∧ ∀ b, V.Mine (flatT t) w' b → V.Mine [] w b ∨ w.heap.size ≤ b
theorem ren_end {V : Vis} {φ : Int → Int} {t : Tm} {S : Nat → Prop} {w wr : World} {D : List (Tm × Int)} {v : Value} {cs : Array Value} (h : RnI V φ t S w D [] [] wr) (hD : flatT t = D) (it : IsTm wr S v (renT φ t)) :
    RenPost V φ t w (.returned v) (wr.setRow (w.heap.size + 1) cs) := by
  have hr1 : w.heap.size + 1 < wr.heap.size := (Array.getElem?_eq_some_iff.1 h.res).1
  have hz : (wr.setRow (w.heap.size + 1) cs).heap.size = wr.heap.size := by simp
  have hv := V.keep h.sig (Nat.le_of_eq hz.symm) fun b hb hm => setRow_other _ _ _ _ fun e => h.nores (by rw [← e]; exact hm)
  refine ⟨v, rfl, ?_, by rw [hD]; exact hv.1, h.keeps.trans (M' := fun b => b = w.heap.size + 1) ⟨rfl, rfl, rfl, Nat.le_of_eq hz.symm, fun b _ hne => setRow_other _ _ _ _ hne⟩ fun b e => .inr (by rw [e]; omega), fun b hb => by rw [hD] at hb; exact h.mine b (hv.2 b hb)⟩
  refine it.imp (fun b hb => ⟨(h.rows b hb).1, fun hm => ?_, by obtain ⟨-, h2, -, cur, hc⟩ := h.rows b hb; exact ⟨cur, (setRow_other _ _ _ _ h2).trans hc⟩⟩) fun b hb _ => setRow_other _ _ _ _ (h.rows b hb).2.1
  rw [hD] at hm
  exact (h.rows b hb).2.2.1 (hv.2 b hm)

def RnIn (V : Vis) (φ : Int → Int) (t : Tm) (w : World) (S : Nat → Prop) (D : List (Tm × Int)) (l' : List Plc) (xa : List Tm) (g2 : Nat) (v5 v8 : Value) (wr : World) : Prop :=
  ∃ (q g cap n : Nat), q ≤ xa.length ∧ v8 = .int .i64 ((q : Int) - 1) ∧ v5 = .slice (some ⟨g, 0, none⟩) n cap ∧ Stack (w.heap.size + 2) g cap n (l' ++ ((kids g2 0 xa).drop q).reverse) wr ∧ RnI V φ t S w D (l' ++ kids g2 0 xa) (l' ++ kids g2 0 xa) wr ∧ ¬ V.Mine D wr g
end Go.Proofs.Ytmlceamcpelklaa.Tms
namespace Go.Proofs.Ytmlceamcpelklaa.Tms
open Go Go.RowKit Go.Proofs.Ytmlceamcpelklaa.Reg Go.Proofs.Ytmlceamcpelklaa.Rws
set_option linter.unusedVariables false

theorem wpList_move {P : Program} {w : World} {ops : Array Oper} {rest : List Oper} {o : Oper} {a : Act} {Q : Exit → Act → World → Prop} (hgd : o.guard = none) (x : Operand) (ho : o.op = .move x) (h : wpList P ops Q rest (a.put o.dst (a.eval x)) w) : wpList P ops Q (o :: rest) a w := by
  refine wpList_plain hgd fun K hK => ?_
  unfold Oper.wp
  simp [execOp, ho]
  exact hK _ _ h
theorem ren_push {V : Vis} {φ : Int → Int} {t : Tm} {w wr w5 : World} {S : Nat → Prop} {D : List (Tm × Int)} {l' : List Plc} {xa : List Tm} {g2 r g4 cp4 n4 : Nat} {v5 : Value} (hst : Stack (w.heap.size + 2) g4 cp4 n4 (l' ++ ((kids g2 0 xa).drop (r + 1)).reverse) wr)
    (hI : RnI V φ t S w D (l' ++ kids g2 0 xa) (l' ++ kids g2 0 xa) wr) (hng : ¬ V.Mine D wr g4) (hq : r + 1 ≤ xa.length)
    (hown : w5.ownsRow (w.heap.size + 2) 155 1 v5 (n4 + 1) ((l' ++ ((kids g2 0 xa).drop (r + 1)).reverse).map ptrOf ++ [.pointer (some ⟨g2, r * 4, none⟩)])) (hg : (wr.alloc (.cells #[.pointer (some ⟨g2, r * 4, none⟩)] 155 (0, 0))).grownBy w5 (Value.slice (some ⟨g4, 0, none⟩) n4 cp4).ownBlock)
    (hv : ∀ k, v5.ownBlock = some k → (Value.slice (some ⟨g4, 0, none⟩) n4 cp4).ownBlock = some k ∨ (wr.alloc (.cells #[.pointer (some ⟨g2, r * 4, none⟩)] 155 (0, 0))).heap.size ≤ k) :
    ∃ g5 cp5, v5 = .slice (some ⟨g5, 0, none⟩) (n4 + 1) cp5 ∧ RnIn V φ t w S D l' xa g2 v5 (.int .i64 ((r : Int) - 1)) w5 := by
  have hba : Below wr.heap.size wr (wr.alloc (.cells #[.pointer (some ⟨g2, r * 4, none⟩)] 155 (0, 0))) := (Below.refl _ _).alloc (Nat.le_refl _) _
  have hsz : (wr.alloc (.cells #[.pointer (some ⟨g2, r * 4, none⟩)] 155 (0, 0))).heap.size = wr.heap.size + 1 := by simp
  generalize wr.alloc (.cells #[.pointer (some ⟨g2, r * 4, none⟩)] 155 (0, 0)) = u at *
  have hg4 := hst.lt
  have hS4 := hI.notS hst
  obtain ⟨cur, -, hB4⟩ := hst.blk
  have hk : Keeps wr w5 (fun b => b = g4) := ⟨hg.os.trans hba.os, hg.tape.trans hba.tape, hg.output.trans hba.output, by have := hg.size; omega, fun b hb hne => (hg.block b (by omega) fun e => hne (Option.some.inj e)).trans (hba.block b hb)⟩
  have hI5 := hI.keep hk fun b _ e => by subst e; exact ⟨hS4, hng, hB4⟩
  have hv5 := V.keep hI.sig hk.size fun b hb hm => hk.block b hb fun e => hng (by rw [← e]; exact hm)
  have hxr : (kids g2 0 xa).drop r = (g2, r * 4, xa[r]) :: (kids g2 0 xa).drop (r + 1) := by
    rw [List.drop_eq_getElem_cons (by rw [kids_len]; omega), kids_get g2 0 xa r (by omega)]
    simp
  have hl : (l' ++ ((kids g2 0 xa).drop r).reverse) = (l' ++ ((kids g2 0 xa).drop (r + 1)).reverse) ++ [(g2, r * 4, xa[r])] := by rw [hxr, List.reverse_cons, List.append_assoc]
  have ho := hown
  obtain ⟨-, h0 | ⟨g5, cp5, cur5, e, -⟩⟩ := hown
  · exact absurd h0.2 (by omega)
  · subst e
    refine ⟨g5, cp5, rfl, r, g5, cp5, n4 + 1, by omega, rfl, rfl, ⟨by rw [hl, List.length_append, hst.len]; rfl, by rw [hl, List.map_append]; exact ho⟩, hI5, fun hm => ?_⟩
    have hm' := hv5.2 _ hm
    rcases hv g5 rfl with h | h
    · have : g4 = g5 := Option.some.inj (show some g4 = some g5 from h)
      exact hng (by rw [this]; exact hm')
    · have := V.low hI.sig hm'; omega
end Go.Proofs.Ytmlceamcpelklaa.Tms
