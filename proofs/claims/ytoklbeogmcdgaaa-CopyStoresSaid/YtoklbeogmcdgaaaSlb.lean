
/-
  Layer 8 as its laws see it: Put and Fresh, whatever they answer; Look.
-/
import Derived.Test.YtoklbeogmcdgaaaPlx
namespace Go.Proofs.Ytoklbeogmcdgaaa.Tms
open Go Go.RowKit Go.Proofs.Ytoklbeogmcdgaaa.Reg Go.Proofs.Ytoklbeogmcdgaaa.Rws Go.Proofs.Ytoklbeogmcdgaaa.Maps
set_option linter.unusedVariables false
set_option linter.unusedSimpArgs false

def cntM (S : Sto) (M : List (Int × Int)) (t : Tm) : Bool × Nat × List (Int × Int) := cntT (fun n => mget M n) S.cells.length 0 [] t
/-- what Put answers: the cell, the error -/
def putA (S : Sto) (M : List (Int × Int)) (t : Tm) : Int × Int := if checkT t ≠ 0 then (0, checkT t) else if (cntM S M t).1 = false then (0, 2) else if S.room - S.cells.length < ((cntM S M t).2.1 : Int) then (0, 9) else ((putR S M t).1, 0)
/-- what Put leaves -/
def putW (S : Sto) (M : List (Int × Int)) (t : Tm) : Sto := if checkT t ≠ 0 then S else if (cntM S M t).1 = false then S else if S.room - S.cells.length < ((cntM S M t).2.1 : Int) then S else putS S M t
/-- the variables that it tells -/
def putN (S : Sto) (M : List (Int × Int)) (t : Tm) : List (Int × Int) := if checkT t ≠ 0 then [] else if (cntM S M t).1 = false then [] else if S.room - S.cells.length < ((cntM S M t).2.1 : Int) then [] else (putR S M t).2.2
theorem Inv.putW {S : Sto} (h : Inv S) (M : List (Int × Int)) (t : Tm) : Inv (Tms.putW S M t) ∧ (Tms.putW S M t).room = S.room := by
  unfold Tms.putW
  split
  · exact ⟨h, rfl⟩
  · split
    · exact ⟨h, rfl⟩
    · split
      · exact ⟨h, rfl⟩
      · rename_i h1 h2 h3
        have h2' : (cntM S M t).1 = true := by simpa using h2
        exact ⟨h.put ⟨by simpa using h1, h2', by unfold cntM at h3; omega⟩, rfl⟩
/-- what Put leaves in memory: the store, the told variables' map, all else -/
structure LawPut (w0 : World) (p : Nat) (D : Nat → Prop) (mb : Nat) (M : List (Int × Int)) (N : List (Int × Int)) (w : World) (S' : Sto) (D' : Nat → Prop) (F : List (Int × Int)) (w' : World) : Prop where
  law : Law8 w0 p S' D' w'
  perm : N.Perm F
  map : IMapB w' mb (M ++ F)
  free : ¬ D' mb
  size : w.heap.size ≤ w'.heap.size
  blk : ∀ b, Free D w b → b ≠ mb → Free D' w' b ∧ w'.heap[b]? = w.heap[b]?
section
variable {w0 w w' : World} {p mb : Nat} {S S' : Sto} {D D' : Nat → Prop} {M : List (Int × Int)}
theorem lawPut_same (h : Law8 w0 p S D w) (hm : IMapB w mb M) (hd : ¬ D mb) (hb : Below w.heap.size w w') : LawPut w0 p D mb M [] w S D [] w' := by
  obtain ⟨h1, h2, -⟩ := h.below hb
  exact ⟨h1, List.Perm.refl _, by rw [List.append_nil]; exact hm.below (hb.block _ hm.lt), hd, hb.size, fun b hb _ => h2.blk b hb⟩
theorem law_PutV (h : Law8 w0 p S D w) (hI : Inv S) (hm : IMapB w mb M) (hd : ¬ D mb) (h0 : w0.heap.size ≤ mb) {t : Tm} {v : Value} {P : Nat → Prop} (ht : IsTm w P v t) (hP : ∀ b, P b → ¬ D b) (hs : t.size ≤ 20000) :
    Calls Try.prog 17 #[.pointer (some ⟨p, 0, none⟩), v, .map (some mb)] w fun e w' => e = .returned (.tuple #[.int .i64 (putA S M t).1, .int .i64 (putA S M t).2]) ∧ ∃ D' F, LawPut w0 p D mb M (putN S M t) w (putW S M t) D' F w' := by
  have hd' : ∀ b, Value.map (some mb) = .map (some b) → ¬ D b := fun b e => by simp only [Value.map.injEq, Option.some.injEq] at e; subst e; exact hd
  have hv : VMap w (.map (some mb)) M := .inr ⟨mb, rfl, hm⟩
  have hsm := hI.small
  unfold putA putW putN
  by_cases h1 : checkT t ≠ 0
  · simp only [if_pos h1]
    refine (sto_Put_check w h.sto t v (some mb) P M (by omega) ht hv hd' h1).mono ?_
    rintro e w' ⟨rfl, hb⟩
    exact ⟨rfl, D, [], lawPut_same h hm hd hb⟩
  simp only [if_neg h1]
  have h1' : checkT t = 0 := by simpa using h1
  by_cases h2 : (cntM S M t).1 = false
  · simp only [if_pos h2]
    refine (sto_Put_arg w h.sto t v (some mb) P M (by omega) ht hv hd' h1' h2).mono ?_
    rintro e w' ⟨rfl, hb⟩
    exact ⟨rfl, D, [], lawPut_same h hm hd hb⟩
  simp only [if_neg h2]
  have h2' : (cntM S M t).1 = true := by simpa using h2
  by_cases h3 : S.room - S.cells.length < ((cntM S M t).2.1 : Int)
  · simp only [if_pos h3]
    refine (sto_Put_full w h.sto t v (some mb) P M (by omega) ht hv hd' (by omega) hI.room0 hI.room h1' h2' h3).mono ?_
    rintro e w' ⟨rfl, hb⟩
    exact ⟨rfl, D, [], lawPut_same h hm hd hb⟩
  simp only [if_neg h3]
  refine (sto_Put_ok w h.sto t v (some mb) P M (by omega) ht hv hd' hP (by omega) hI.room0 hI.room h1' h2' (by unfold cntM at h3; omega)).mono ?_
  intro e w' hp
  obtain ⟨he, D', hs', hk, hg, hF⟩ := hp
  obtain ⟨F, hperm, hmap⟩ := hF mb rfl
  have hlt := hm.lt
  have hnd : ∀ b, b < w.heap.size → ¬ D b → ¬ D' b := fun b hb hn e => by
    rcases hg b e with e | e
    · exact hn e
    · omega
  have hz := h.bel.size
  refine ⟨he, D', F, ⟨hs', fun b hb => ?_, ⟨hk.os.trans h.bel.os, hk.tape.trans h.bel.tape, hk.output.trans h.bel.output, Nat.le_trans hz hk.size, fun b hlt' => ?_⟩⟩, hperm, hmap, hnd mb hlt hd, hk.size, fun b hb hne => ⟨⟨hnd b hb.2 hb.1, Nat.lt_of_lt_of_le hb.2 hk.size⟩, ?_⟩⟩
  · rcases hg b hb with e | e
    · exact h.own b e
    · omega
  · refine (hk.block b (by omega) fun e => ?_).trans (h.bel.block b hlt')
    rcases e with e | e
    · have := h.own b e; omega
    · simp only [Option.some.injEq] at e; omega
  · refine hk.block b hb.2 fun e => ?_
    rcases e with e | e
    · exact hb.1 e
    · simp only [Option.some.injEq] at e; exact hne e.symm
def freshA (S : Sto) : Int × Int := if (S.cells.length : Int) < S.room then ((S.cells.length : Int), 0) else (0, 9)
def freshW (S : Sto) : Sto := if (S.cells.length : Int) < S.room then freshS S else S
theorem Inv.freshW {S : Sto} (h : Inv S) : Inv (Tms.freshW S) ∧ (Tms.freshW S).room = S.room := by
  unfold Tms.freshW
  split
  · rename_i h1; exact ⟨h.fresh h1, rfl⟩
  · exact ⟨h, rfl⟩
theorem law_FreshE (h : Law8 w0 p S D w) (hI : Inv S) :
    Calls Try.prog 21 #[.pointer (some ⟨p, 0, none⟩)] w fun e w' => e = .returned (.tuple #[.int .i64 (freshA S).1, .int .i64 (freshA S).2]) ∧ LawDid w0 p D w (freshW S) w' := by
  unfold freshA freshW
  by_cases hr : (S.cells.length : Int) < S.room
  · simp only [if_pos hr]
    exact law_Fresh h hI hr
  · simp only [if_neg hr]
    refine (sto_Fresh_full w h.sto (by have := hI.small; omega) (by omega)).mono ?_
    rintro e w' ⟨rfl, hb⟩
    exact ⟨rfl, D, (h.below hb).1, (h.below hb).2.1⟩
/-- a slice of ints that isn't the store's -/
theorem IntSl.step {v : Value} {L : List Int} (h : IntSl w (Free D w) v L) (hs : Step D w D' w') : IntSl w' (Free D' w') v L := h.move (fun b hb _ => (hs.blk b hb).1) fun b hb _ => (hs.blk b hb).2
theorem law_Look (h : Law8 w0 p S D w) (hI : Inv S) (x : Nat) (hx : x < S.cells.length) :
    Calls Try.prog 28 #[.pointer (some ⟨p, 0, none⟩), .int .i64 x] w fun e w' => ∃ v, e = .returned (.tuple #[aggS (shellC (fol S x) (cellF S x)), v]) ∧ Law8 w0 p S D w' ∧ Step D w D w' ∧ IntSl w' (Free D w') v (cellF S x).args := by
  obtain ⟨f, hc, hg⟩ := hI.stoIn.fol hx
  refine (sto_Look w h.sto f x _ _ hc hg (by have := hI.small; omega) (by have := (hI.cell _ _ hg).len; omega)).mono ?_
  rintro e w' ⟨v, rfl, hv, hb⟩
  obtain ⟨h1, h2, h3⟩ := h.below hb
  exact ⟨v, rfl, h1, h2, hv.low.move (fun b hb _ => h3 b hb.1 hb.2) fun _ _ _ => rfl⟩
theorem bindW_room (S : Sto) (x y : Int) : (bindW S x y).room = S.room := by
  unfold bindW
  split
  · rfl
  · split <;> rfl
end
end Go.Proofs.Ytoklbeogmcdgaaa.Tms
