/-
  Layer texts, glued and made small.
-/
import Derived.Test.YtcbijikalfodnaaG11
set_option linter.unusedVariables false
set_option linter.unusedSimpArgs false
set_option maxRecDepth 100000
set_option maxHeartbeats 16000000
namespace Go.Proofs.Ytcbijikalfodnaa.Tms
open Go Go.RowKit Go.Proofs.Ytcbijikalfodnaa.Reg Go.Proofs.Ytcbijikalfodnaa.Rws Go.Proofs.Ytcbijikalfodnaa.Maps
theorem mget_perm {l l' : List (Int × Int)} (h : l.Perm l') : (l.map (·.1)).Nodup → ∀ n, mget l n = mget l' n := by
 induction h with
 | nil => intro _ n; rfl
 | cons x _ ih =>
   intro hn n; simp only [List.map_cons, List.nodup_cons] at hn; simp only [mget]; rw [ih hn.2 n]
 | swap x y l =>
   intro hn n; simp only [List.map_cons, List.nodup_cons, List.mem_cons, not_or] at hn; simp only [mget]
   by_cases h1 : n = y.1
   ·rw [if_pos h1, if_neg fun e => hn.1.1 (h1.symm.trans e), if_pos h1]
   ·rw [if_neg h1, if_neg h1]
 | trans h1 _ ih1 ih2 =>
   intro hn n; rw [ih1 hn n, ih2 ((h1.map _).nodup_iff.1 hn) n]
mutual
theorem put_keys {told : Int → Option Int} {T0 : Int} : ∀ (t : Tm) (b : Nat) (F : List (Int × Int)), (F.map (·.1)).Nodup → (∀ p ∈ F, told p.1 = none) → ((putT told T0 b F t).2.2.map (·.1)).Nodup ∧ ∀ p ∈ (putT told T0 b F t).2.2, told p.1 = none
 | .mk k n s a, b, F, hn, hF => by
   by_cases k1 : k = 1
   ·rw [putT_var (t := .mk k n s a) k1]
    simp only [Tm.n]; cases h1 : told n with
    | some x => exact ⟨hn, hF⟩
    | none =>
      cases h2 : mget F n with
      | some x => exact ⟨hn, hF⟩
      | none =>
        refine ⟨?_, fun p hp => ?_⟩
        ·simp only [List.map_append, List.map_cons, List.map_nil]
         rw [List.nodup_append]; refine ⟨hn, by simp, fun x hx y hy e => ?_⟩; simp only [List.mem_singleton] at hy; obtain ⟨p, hp, e2⟩ := List.mem_map.1 hx; exact mget_no h2 p hp (by rw [e2, e, hy])
        ·rcases List.mem_append.1 hp with hp | hp
         ·exact hF p hp
         ·simp only [List.mem_singleton] at hp
          rw [hp]; exact h1
   ·by_cases k4 : k = 4
    ·rw [putT_comp (t := .mk k n s a) k4]
     exact put_keysL a (b + 1) F hn hF
    ·rw [putT_leaf (t := .mk k n s a) k1 k4]
     exact ⟨hn, hF⟩
theorem put_keysL {told : Int → Option Int} {T0 : Int} : ∀ (l : List Tm) (b : Nat) (F : List (Int × Int)), (F.map (·.1)).Nodup → (∀ p ∈ F, told p.1 = none) → ((putL told T0 b F l).2.2.map (·.1)).Nodup ∧ ∀ p ∈ (putL told T0 b F l).2.2, told p.1 = none
 | [], b, F, hn, hF => by simp only [putL]; exact ⟨hn, hF⟩
 | t :: l, b, F, hn, hF => by
   obtain ⟨h1, h2⟩ := put_keys (told := told) (T0 := T0) t b F hn hF; simp only [putL]; exact put_keysL l _ _ h1 h2
theorem mget_no {F : List (Int × Int)} {n : Int} (h : mget F n = none) : ∀ p ∈ F, p.1 ≠ n := by
 induction F with
 | nil => intro p hp; cases hp
 | cons q F ih =>
   intro p hp; simp only [mget] at h
   split at h
   ·cases h
   ·rename_i hne
    rcases List.mem_cons.1 hp with rfl | hp
    ·exact fun e => hne e.symm
    ·exact ih h p hp
end
mutual
theorem cnt_all {told : Int → Option Int} {N : Nat} (h : ∀ n a, told n = some a → 0 ≤ a ∧ a < N) : ∀ (t : Tm) (c : Nat) (F : List (Int × Int)), (cntT told N c F t).1 = true
 | .mk k n s a, c, F => by
   by_cases k1 : k = 1
   ·rw [cntT_var (t := .mk k n s a) k1]
    simp only [Tm.n]; cases h1 : told n with
    | some x => have := h n x h1; simp; omega
    | none => cases mget F n <;> rfl
   ·rw [cntT_not (t := .mk k n s a) k1]
    exact cnt_allL h a _ _
theorem cnt_allL {told : Int → Option Int} {N : Nat} (h : ∀ n a, told n = some a → 0 ≤ a ∧ a < N) : ∀ (l : List Tm) (c : Nat) (F : List (Int × Int)), (cntL told N c F l).1 = true
 | [], c, F => by rw [cntL_nil]
 | t :: l, c, F => by rw [cntL_pos (cnt_all h t c F)]; exact cnt_allL h l _ _
end
theorem mget_congr {M M' : List (Int × Int)} (h : ∀ n, mget M n = mget M' n) : (fun n => mget M n) = fun n => mget M' n := funext h
theorem put_congr {S : Sto} {M M' : List (Int × Int)} (h : ∀ n, mget M n = mget M' n) (t : Tm) : putA S M t = putA S M' t ∧ putW S M t = putW S M' t ∧ putN S M t = putN S M' t := by
 have e := mget_congr h; have e1 : putR S M t = putR S M' t := by unfold putR; rw [e]
 have e2 : cntM S M t = cntM S M' t := by unfold cntM; rw [e]
 have e3 : putS S M t = putS S M' t := by unfold putS; rw [e1]
 unfold putA putW putN; rw [e1, e2, e3]; exact ⟨rfl, rfl, rfl⟩
structure MOk (S : Sto) (M : List (Int × Int)) : Prop where
 inn : ∀ p ∈ M, 0 ≤ p.2 ∧ p.2 < S.cells.length
 nd : (M.map (·.1)).Nodup
theorem MOk.nil (S : Sto) : MOk S [] := ⟨fun p hp => (by cases hp), by simp⟩
theorem MayPut.eq {S : Sto} {M : List (Int × Int)} {t : Tm} (h : MayPut S M t) : putW S M t = putS S M t ∧ putA S M t = ((putR S M t).1, 0) ∧ putN S M t = (putR S M t).2.2 := by
 have h1 : cntM S M t = cntT (fun n => mget M n) S.cells.length 0 [] t := rfl; have h2 := h.cnt; have h3 := h.fit; unfold putW putA putN; simp only [h1, h.chk, h2, ne_eq, not_true_eq_false, if_false, Bool.true_eq_false]; rw [if_neg (by omega), if_neg (by omega), if_neg (by omega)]; exact ⟨rfl, rfl, rfl⟩
theorem MOk.put {S : Sto} {M : List (Int × Int)} (h : MOk S M) (hI : Inv S) {t : Tm} (hm : MayPut S M t) : MOk (putS S M t) (M ++ putN S M t) := by
 rw [hm.eq.2.2]; have hok := hm.ok.2.2; have hk := put_keys (told := fun n => mget M n) (T0 := lastTop S.cells) t S.cells.length [] (by simp) (fun p hp => by cases hp); refine ⟨fun p hp => ?_, ?_⟩
 ·rw [putS_len]
  rcases List.mem_append.1 hp with hp | hp
  ·have := h.inn p hp; omega
  ·exact hok p hp
 ·rw [List.map_append, List.nodup_append]
  refine ⟨h.nd, hk.1, fun x hx y hy e => ?_⟩; obtain ⟨p, hp, rfl⟩ := List.mem_map.1 hx; obtain ⟨q, hq, rfl⟩ := List.mem_map.1 hy; exact mget_no (hk.2 q hq) p hp e
theorem MOk.same {S S' : Sto} {M : List (Int × Int)} (h : MOk S M) (e : S'.cells.length = S.cells.length) : MOk S' M := ⟨fun p hp => by rw [e]; exact h.inn p hp, h.nd⟩
structure VarsAt (w0 : World) (D : Nat → Prop) (mb : Nat) (M : List (Int × Int)) (w : World) : Prop where
 map : ∃ L, IMapB w mb L ∧ L.Perm M
 free : ¬ D mb
 base : w0.heap.size ≤ mb
theorem VarsAt.lt {w0 w : World} {D : Nat → Prop} {mb : Nat} {M : List (Int × Int)} (h : VarsAt w0 D mb M w) : mb < w.heap.size := let ⟨L, h, _⟩ := h.map; h.lt
theorem VarsAt.step {w0 w w' : World} {D D' : Nat → Prop} {mb : Nat} {M : List (Int × Int)} (h : VarsAt w0 D mb M w) (hs : Step D w D' w') : VarsAt w0 D' mb M w' := by
 obtain ⟨L, h1, h2⟩ := h.map; exact ⟨⟨L, h1.below (hs.blk mb ⟨h.free, h.lt⟩).2, h2⟩, (hs.blk mb ⟨h.free, h.lt⟩).1.1, h.base⟩
theorem VarsAt.below {w0 w w' : World} {D : Nat → Prop} {mb : Nat} {M : List (Int × Int)} (h : VarsAt w0 D mb M w) (hb : Below w.heap.size w w') : VarsAt w0 D mb M w' := by
 obtain ⟨L, h1, h2⟩ := h.map; exact ⟨⟨L, h1.below (hb.block mb h.lt), h2⟩, h.free, h.base⟩
section
variable {w0 w : World} {p mb : Nat} {S : Sto} {D : Nat → Prop} {M : List (Int × Int)}
theorem law_PutM (h : Law8 w0 p S D w) (hI : Inv S) (hv : VarsAt w0 D mb M w) (hM : (M.map (·.1)).Nodup) {t : Tm} {v : Value} {P : Nat → Prop} (ht : IsTm w P v t) (hP : ∀ b, P b → ¬ D b) (hs : t.size ≤ 20000) :
 Calls Try.prog 17 #[.pointer (some ⟨p, 0, none⟩), v, .map (some mb)] w fun e w' => e = .returned (.tuple #[.int .i64 (putA S M t).1, .int .i64 (putA S M t).2]) ∧ ∃ D', Law8 w0 p (putW S M t) D' w' ∧ VarsAt w0 D' mb (M ++ putN S M t) w' ∧ w.heap.size ≤ w'.heap.size ∧ ∀ b, Free D w b → b ≠ mb → Free D' w' b ∧ w'.heap[b]? = w.heap[b]? := by
 obtain ⟨L, h1, h2⟩ := hv.map; obtain ⟨e1, e2, e3⟩ := put_congr (S := S) (fun n => (mget_perm h2.symm hM n).symm) t; refine (law_PutV h hI h1 hv.free hv.base ht hP hs).mono ?_; rintro e w' ⟨rfl, D', F, hput⟩; rw [e1]; have hl := hput.law; rw [e2] at hl; refine ⟨rfl, D', hl, ⟨⟨L ++ F, hput.map, h2.append ?_⟩, hput.free, hv.base⟩, hput.size, hput.blk⟩; have := hput.perm; rw [e3] at this; exact this.symm
end
/-! ### What is got is small -/
theorem gfold_size {g : Nat → Nat → Tm × Int × Nat} (hg : ∀ x n, (g x n).2.1 = 0 → n + (g x n).1.size ≤ (g x n).2.2) : ∀ (l : List Int) (st : List Tm × Int × Nat) (c : Nat), c + sizeL st.1 ≤ st.2.2 → (l.foldl (gStep g) st).2.1 = 0 → c + sizeL (l.foldl (gStep g) st).1 ≤ (l.foldl (gStep g) st).2.2
 | [], st, c, hs, _ => hs
 | a :: l, st, c, hs, h => by
   rw [List.foldl_cons] at h ⊢
   by_cases h1 : st.2.1 = 0
   ·by_cases h2 : (g a.toNat st.2.2).2.1 = 0
    ·have h3 := hg _ _ h2
     rw [gStep_ok h1 h2] at h ⊢; refine gfold_size hg l _ c ?_ h; dsimp only; rw [sizeL_app]; simp only [sizeL]; omega
    ·rw [gStep_bad h1 h2, gfold_stop _ _ _ h2] at h
     exact absurd h h2
   ·have e : gStep g st a = st := if_pos h1
    rw [e, gfold_stop _ _ _ h1] at h; exact absurd h h1
theorem withArgs_size (t : Tm) (l : List Tm) : (withArgs t l).size = 1 + sizeL l := by unfold withArgs; simp only [Tm.size]; omega
theorem getG_size (S : Sto) : ∀ (f x n : Nat), (getG S f x n).2.1 = 0 → n + (getG S f x n).1.size ≤ (getG S f x n).2.2
 | 0, x, n, h => by simp [getG] at h
 | f + 1, x, n, h => by
   rw [getG_succ] at h ⊢
   by_cases h1 : 20000 < n + 1
   ·rw [if_pos h1] at h; simp at h
   ·rw [if_neg h1] at h ⊢
    by_cases h2 : ((cellF S x).args.foldl (gStep (getG S f)) ([], 0, n + 1)).2.1 ≠ 0
    ·rw [if_pos h2] at h; exact absurd h h2
    ·rw [if_neg h2] at h ⊢
     have := gfold_size (getG_size S f) (cellF S x).args ([], 0, n + 1) (n + 1) (by simp [sizeL]) (by simpa using h2); dsimp only; rw [withArgs_size]; omega
theorem getT_size (S : Sto) (x : Nat) : (getT S x).size ≤ 20000 := by
 unfold getT
 split
 ·rename_i h
  have h1 := getG_size S 2000 x 0 h; have h2 := getG_bound S 2000 x 0 (by omega) h; omega
 ·simp [zeroTm, Tm.size, sizeL]
end Go.Proofs.Ytcbijikalfodnaa.Tms
namespace Go.Proofs.Ytcbijikalfodnaa.Tms
open Go Go.RowKit Go.Proofs.Ytcbijikalfodnaa.Reg Go.Proofs.Ytcbijikalfodnaa.Rws
open Go.Proofs.Ytcbijikalfodnaa.Cod (Ins Cod sk check slotsN)
structure PtR where
 cell : Int
 err : Int
 at_ : Nat
 S : Sto
 sl : List Int
structure PsR where
 cells : List Int
 err : Int
 at_ : Nat
 S : Sto
 sl : List Int
def patsX (f : Nat → Sto → List Int → PtR) : Nat → Nat → Sto → List Int → PsR
 | 0, a, S, sl => ⟨[], 0, a, S, sl⟩
 | n + 1, a, S, sl =>
   if (patsX f n a S sl).err ≠ 0 then patsX f n a S sl
   else if (f (patsX f n a S sl).at_ (patsX f n a S sl).S (patsX f n a S sl).sl).err ≠ 0 then
    ⟨(patsX f n a S sl).cells, (f (patsX f n a S sl).at_ (patsX f n a S sl).S (patsX f n a S sl).sl).err, (f (patsX f n a S sl).at_ (patsX f n a S sl).S (patsX f n a S sl).sl).at_, (f (patsX f n a S sl).at_ (patsX f n a S sl).S (patsX f n a S sl).sl).S, (f (patsX f n a S sl).at_ (patsX f n a S sl).S (patsX f n a S sl).sl).sl⟩
   else ⟨(patsX f n a S sl).cells ++ [(f (patsX f n a S sl).at_ (patsX f n a S sl).S (patsX f n a S sl).sl).cell], 0, (f (patsX f n a S sl).at_ (patsX f n a S sl).S (patsX f n a S sl).sl).at_, (f (patsX f n a S sl).at_ (patsX f n a S sl).S (patsX f n a S sl).sl).S, (f (patsX f n a S sl).at_ (patsX f n a S sl).S (patsX f n a S sl).sl).sl⟩
def numM (l : List Int) : List (Int × Int) := l.zipIdx.map fun p => ((p.2 : Int), p.1)
def varsX (n : Nat) : List Tm := (List.range n).map fun j : Nat => varT (j : Int)
def putXE (a : Nat) (S : Sto) (sl : List Int) (M : List (Int × Int)) (t : Tm) : PtR := ⟨(putA S M t).1, (putA S M t).2, a, putW S M t, sl⟩
def slotX (i : Ins) (a : Nat) (S : Sto) (sl : List Int) : PtR :=
 if sl.getD i.a.toNat 0 < 0 then (if (freshA S).2 ≠ 0 then ⟨0, (freshA S).2, a, freshW S, sl⟩ else ⟨(freshA S).1, 0, a, freshW S, sl.set i.a.toNat (freshA S).1⟩) else ⟨sl.getD i.a.toNat 0, 0, a, S, sl⟩
def compX (i : Ins) (q : PsR) : PtR := if q.err ≠ 0 then ⟨0, q.err, q.at_, q.S, q.sl⟩ else putXE q.at_ q.S q.sl (numM q.cells) (compT i.s (varsX i.a.toNat))
def patX (L : List Ins) : Nat → Nat → Sto → List Int → PtR
 | 0, a, S, sl => ⟨0, 0, a, S, sl⟩
 | N + 1, a, S, sl => match L[a]? with
   | none => ⟨0, 0, a, S, sl⟩
   | some i => if i.op = 1 then ⟨(freshA S).1, (freshA S).2, a + 1, freshW S, sl⟩ else if i.op = 2 ∨ i.op = 3 then slotX i (a + 1) S sl
     else if i.op = 4 then putXE (a + 1) S sl [] (intT i.n) else if i.op = 5 then putXE (a + 1) S sl [] (atomT i.s)
     else compX i (patsX (patX L N) i.a.toNat (a + 1) S sl)
def SlOk (S : Sto) (sl : List Int) : Prop := ∀ x ∈ sl, x = -1 ∨ (0 ≤ x ∧ x < S.cells.length)
inductive Grw (S : Sto) : Sto → Prop
 | refl : Grw S S
 | plus (T : Sto) (l : List SCell) : Grw S T → (∀ c ∈ l, CellOk (T.cells.length + l.length) c ∧ c.lk = -1) → Inv (plusS T l) → Grw S (plusS T l)
 | bind (T : Sto) (v t : Nat) : Grw S T → Inv T → v < T.cells.length → (∃ h : v < T.cells.length, (T.cells[v]).lk = -1 ∧ (T.cells[v]).k = 1) → t < T.cells.length → (∃ h : t < T.cells.length, (T.cells[t]).lk = -1) → v ≠ t → Grw S (bindS T v t)
theorem Grw.trans {S T U : Sto} (h : Grw S T) (h' : Grw T U) : Grw S U := by
 induction h' with
 | refl => exact h
 | plus T l _ h1 h2 ih => exact .plus T l ih h1 h2
 | bind T v t _ h1 h2 h3 h4 h5 h6 ih => exact .bind T v t ih h1 h2 h3 h4 h5 h6
structure StGo (S S' : Sto) : Prop where
 inv : Inv S'
 bonds : S'.bonds = S.bonds
 room : S'.room = S.room
 len : S.cells.length ≤ S'.cells.length
 grw : Grw S S'
theorem StGo.refl {S : Sto} (h : Inv S) : StGo S S := ⟨h, rfl, rfl, Nat.le_refl _, .refl⟩
theorem StGo.trans {S S' S'' : Sto} (h : StGo S S') (h' : StGo S' S'') : StGo S S'' := ⟨h'.inv, h'.bonds.trans h.bonds, h'.room.trans h.room, Nat.le_trans h.len h'.len, h.grw.trans h'.grw⟩
theorem SlOk.go {S S' : Sto} {sl : List Int} (h : SlOk S sl) (hs : StGo S S') : SlOk S' sl := fun x hx => (h x hx).imp id fun h => ⟨h.1, by have := hs.len; omega⟩
structure PtOk (S : Sto) (sl : List Int) (b : Nat) (r : PtR) : Prop where
 go : StGo S r.S
 slots : SlOk r.S r.sl
 len : r.sl.length = sl.length
 err : r.err = 0 ∨ r.err = 9
 done : r.err = 0 → r.at_ = b ∧ 0 ≤ r.cell ∧ r.cell < r.S.cells.length
structure PsOk (S : Sto) (sl : List Int) (n b : Nat) (r : PsR) : Prop where
 go : StGo S r.S
 slots : SlOk r.S r.sl
 len : r.sl.length = sl.length
 err : r.err = 0 ∨ r.err = 9
 done : r.err = 0 → r.at_ = b ∧ r.cells.length = n ∧ ∀ c ∈ r.cells, 0 ≤ c ∧ c < r.S.cells.length
theorem fresh_go {S : Sto} (h : Inv S) : StGo S (freshW S) ∧ ((freshA S).2 = 0 ∨ (freshA S).2 = 9) ∧ ((freshA S).2 = 0 → 0 ≤ (freshA S).1 ∧ (freshA S).1 < (freshW S).cells.length) := by
 have hi := h.freshW
 by_cases hr : (S.cells.length : Int) < S.room
 ·have e1 : freshA S = ((S.cells.length : Int), 0) := if_pos hr
  have e2 : Tms.freshW S = freshS S := if_pos hr; rw [e2] at hi ⊢; rw [e1]
  have hg : Grw S (freshS S) := .plus S [⟨1, 0, ⟨#[]⟩, [], -1, lastTop S.cells⟩] .refl (fun c hc => by
   simp only [List.mem_singleton] at hc; subst hc; exact ⟨⟨by simp, by simp, .inl rfl, fun _ => rfl⟩, rfl⟩) hi.1
  exact ⟨⟨hi.1, rfl, hi.2, by rw [fresh_len]; omega, hg⟩, .inl rfl, fun _ => ⟨by show (0 : Int) ≤ S.cells.length; omega, by rw [fresh_len]; show (S.cells.length : Int) < _; omega⟩⟩
 ·have e1 : freshA S = (0, 9) := if_neg hr
  have e2 : Tms.freshW S = S := if_neg hr; rw [e2, e1]; exact ⟨StGo.refl h, .inr rfl, fun e => by cases e⟩
theorem put_go {S : Sto} (h : Inv S) {M : List (Int × Int)} (hM : MOk S M) {t : Tm} (hc : checkT t = 0) : StGo S (putW S M t) ∧ ((putA S M t).2 = 0 ∨ (putA S M t).2 = 9) ∧ ((putA S M t).2 = 0 → 0 ≤ (putA S M t).1 ∧ (putA S M t).1 < (putW S M t).cells.length) := by
 have hcn : (cntM S M t).1 = true := cnt_all (fun n a ha => hM.inn _ (mget_some ha)) t 0 []; have hi := h.putW M t
 by_cases hf : S.room - S.cells.length < ((cntM S M t).2.1 : Int)
 ·have e1 : putW S M t = S := by unfold putW; rw [if_neg (by simpa using hc), if_neg (by rw [hcn]; decide), if_pos hf]
  have e2 : putA S M t = (0, 9) := by unfold putA; rw [if_neg (by simpa using hc), if_neg (by rw [hcn]; decide), if_pos hf]
  rw [e1, e2]; exact ⟨StGo.refl h, .inr rfl, fun e => by cases e⟩
 ·have hm : MayPut S M t := ⟨hc, hcn, by unfold cntM at hf; omega⟩
  obtain ⟨e1, e2, -⟩ := hm.eq; have hb : (putW S M t).bonds = S.bonds := by rw [e1]; rfl
  have hl : (putW S M t).cells.length = S.cells.length + (putR S M t).2.1.length := by rw [e1, putS_len]
  have hg : Grw S (putW S M t) := by
   have hi1 := hi.1; rw [e1] at hi1 ⊢; refine .plus S _ .refl (fun c hc => ?_) hi1; rw [fixTop_len]; obtain ⟨d, hd, he⟩ := fixTop_mem hc; have := hm.ok.2.1 d hd; exact ⟨this.1.top he, by rw [he.2.2.2.2]; exact this.2⟩
  refine ⟨⟨hi.1, hb, hi.2, by omega, hg⟩, .inl (by rw [e2]), fun _ => ?_⟩; rw [e2, hl]; exact hm.ok.1
theorem numM_keys (l : List Int) : (numM l).map (·.1) = (List.range l.length).map fun j : Nat => (j : Int) := by
 unfold numM; rw [List.map_map]
 apply List.ext_getElem
 ·simp
 ·intro i h1 h2
  simp
theorem numM_ok {S : Sto} {l : List Int} (h : ∀ c ∈ l, 0 ≤ c ∧ c < S.cells.length) : MOk S (numM l) := by
 refine ⟨fun p hp => ?_, ?_⟩
 ·unfold numM at hp
  obtain ⟨q, hq, rfl⟩ := List.mem_map.1 hp; obtain ⟨x, j⟩ := q; exact h x (List.fst_mem_of_mem_zipIdx hq)
 ·rw [numM_keys]
  unfold List.Nodup; rw [List.pairwise_map]; exact List.nodup_range.imp fun {a b} h e => h (by omega)
theorem vars_may (n : Nat) : mayTL (varsX n) = true := by
 unfold varsX; generalize List.range n = l
 induction l with
 | nil => rfl
 | cons a l ih => simp [mayTL, mayT, mayB, varT] at ih ⊢; exact ih
theorem vars_size (n : Nat) : sizeL (varsX n) = n := by
 unfold varsX
 have h : ∀ l : List Nat, sizeL (l.map fun j : Nat => varT (j : Int)) = l.length := by
  intro l
  induction l with
  | nil => rfl
  | cons a l ih => simp only [List.map_cons, sizeL, List.length_cons, varT, Tm.size] at ih ⊢; omega
 rw [h, List.length_range]
theorem comp_ckX {s : ByteArray} {n : Nat} (hs : s.size ≤ 1000) (h1 : 1 ≤ n) (h2 : n ≤ 255) : checkT (compT s (varsX n)) = 0 := by
 refine check_zero ?_ ?_
 ·unfold compT
  have hl : (varsX n).length = n := by simp [varsX]
  simp [mayT, vars_may, mayB, hs, hl, h1, h2]
 ·unfold compT
  simp only [Tm.size, vars_size]; omega
theorem ok5X {i : Ins} (h : i.op = 5) (ho : i.ok = true) : i.s.size ≤ 1000 := by
 obtain ⟨o, a, n, s⟩ := i; simp only at h; subst h
 simp [Cod.Ins.ok, Cod.Ins.isName] at ho
 obtain ⟨ha, hn, hs⟩ := ho; show s.size ≤ 1000; omega
theorem ok6X {i : Ins} (h : i.op = 6) (ho : i.ok = true) : i.s.size ≤ 1000 := by
 obtain ⟨o, a, n, s⟩ := i; simp only at h; subst h
 simp [Cod.Ins.ok, Cod.Ins.isComp] at ho
 obtain ⟨hn, hs⟩ := ho; show s.size ≤ 1000; omega
theorem int_ckX (n : Int) : checkT (intT n) = 0 := check_zero (by simp [intT, mayT, mayB, mayTL]) (by simp [intT, Tm.size, sizeL])
theorem atom_ckX {s : ByteArray} (h : s.size ≤ 1000) : checkT (atomT s) = 0 := check_zero (by simp [atomT, mayT, mayB, mayTL, h]) (by simp [atomT, Tm.size, sizeL])
theorem putXE_ok {S : Sto} (hI : Inv S) {sl : List Int} (hs : SlOk S sl) {M : List (Int × Int)} (hM : MOk S M) {t : Tm} (hc : checkT t = 0) (a : Nat) : PtOk S sl a (putXE a S sl M t) := by
 obtain ⟨h1, h2, h3⟩ := put_go hI hM hc; exact ⟨h1, hs.go h1, rfl, h2, fun e => ⟨rfl, h3 e⟩⟩
theorem slotX_ok {S : Sto} (hI : Inv S) {sl : List Int} (hs : SlOk S sl) {i : Ins} (h0 : 0 ≤ i.a) (h1 : i.a < sl.length) (a : Nat) : PtOk S sl a (slotX i a S sl) := by
 have hlt : i.a.toNat < sl.length := by omega
 have hget : sl.getD i.a.toNat 0 = sl[i.a.toNat] := by simp [List.getD, List.getElem?_eq_getElem hlt]
 have hin := hs _ (List.getElem_mem hlt); obtain ⟨g1, g2, g3⟩ := fresh_go hI; unfold slotX; rw [hget]
 by_cases hn : sl[i.a.toNat] < 0
 ·rw [if_pos hn]
  by_cases he : (freshA S).2 ≠ 0
  ·rw [if_pos he]
   exact ⟨g1, hs.go g1, rfl, g2, fun e => absurd e he⟩
  ·rw [if_neg he]
   have he' : (freshA S).2 = 0 := by simpa using he
   refine ⟨g1, fun x hx => ?_, by simp, .inl rfl, fun _ => ⟨rfl, g3 he'⟩⟩; rcases List.mem_or_eq_of_mem_set hx with hx | rfl
   ·exact hs.go g1 x hx
   ·exact .inr (g3 he')
 ·rw [if_neg hn]
  refine ⟨StGo.refl hI, hs, rfl, .inl rfl, fun _ => ⟨rfl, ?_⟩⟩; rcases hin with h | h
  ·omega
  ·exact h
theorem patsX_ok {L : List Ins} {sn N : Nat} (hf : ∀ a j S sl, sk (L.drop a) 1 = some j → j ≤ N → Inv S → SlOk S sl → sl.length = sn → PtOk S sl (a + j) (patX L N a S sl)) : ∀ n a j S sl, sk (L.drop a) n = some j → j ≤ N → Inv S → SlOk S sl → sl.length = sn → PsOk S sl n (a + j) (patsX (patX L N) n a S sl)
 | 0, a, j, S, sl, h, _, hI, hs, _ => by
   have hj : j = 0 := by rw [Cod.sk_zero] at h; simpa using h.symm
   subst hj; exact ⟨StGo.refl hI, hs, rfl, .inl rfl, fun _ => ⟨rfl, rfl, by simp [patsX]⟩⟩
 | n + 1, a, j, S, sl, h, hj, hI, hs, hl => by
   obtain ⟨x, y, h1, h2, rfl⟩ := sk_split _ n 1 j h; rw [List.drop_drop] at h2; have ih := patsX_ok hf n a x S sl h1 (by omega) hI hs hl; unfold patsX
   by_cases he : (patsX (patX L N) n a S sl).err ≠ 0
   ·rw [if_pos he]
    exact ⟨ih.go, ih.slots, ih.len, ih.err, fun e => absurd e he⟩
   ·rw [if_neg he]
    have he' : (patsX (patX L N) n a S sl).err = 0 := by simpa using he
    obtain ⟨ia, il, ic⟩ := ih.done he'; have hp := hf (patsX (patX L N) n a S sl).at_ y (patsX (patX L N) n a S sl).S (patsX (patX L N) n a S sl).sl (by rw [ia]; exact h2) (by omega) ih.go.inv ih.slots (ih.len.trans hl); generalize patsX (patX L N) n a S sl = q at *; generalize patX L N q.at_ q.S q.sl = r at *
    by_cases hr : r.err ≠ 0
    ·rw [if_pos hr]
     exact ⟨ih.go.trans hp.go, hp.slots, hp.len.trans ih.len, hp.err, fun e => absurd e hr⟩
    ·rw [if_neg hr]
     have hr' : r.err = 0 := by simpa using hr
     obtain ⟨ra, rc⟩ := hp.done hr'; refine ⟨ih.go.trans hp.go, hp.slots, hp.len.trans ih.len, .inl rfl, fun _ => ⟨by show r.at_ = _; omega, by simp [il], fun c hc => ?_⟩⟩; rcases List.mem_append.1 hc with hc | hc
     ·have := ic c hc; have := hp.go.len; show 0 ≤ c ∧ c < r.S.cells.length; omega
     ·simp only [List.mem_singleton] at hc; subst hc; exact rc
theorem patX_ok {L : List Ins} {sn : Nat} (hok : ∀ i ∈ L, i.ok = true) (hsl : ∀ i ∈ L, i.op = 2 ∨ i.op = 3 → 0 ≤ i.a ∧ i.a < sn) : ∀ N a j S sl, sk (L.drop a) 1 = some j → j ≤ N → Inv S → SlOk S sl → sl.length = sn → PtOk S sl (a + j) (patX L N a S sl)
 | 0, a, j, S, sl, h, hj, hI, hs, hl => by
   obtain ⟨i, l', q, -, -, -, rfl⟩ := sk_one h; omega
 | N + 1, a, j, S, sl, h, hj, hI, hs, hl => by
   obtain ⟨i, l', q, hd, hb, hq, rfl⟩ := sk_one h; obtain ⟨b1, b2, b3⟩ := not_bad hb
   have hla : L[a]? = some i := by
    have := congrArg List.head? hd; rw [List.head?_drop] at this
    simpa using this
   have hl' : L.drop (a + 1) = l' := by
    have := congrArg List.tail hd; rw [List.tail_drop] at this
    simpa using this
   have hm : i ∈ L := List.mem_of_getElem? hla; have ho := hok i hm; unfold patX; rw [hla]; simp only []
   by_cases o1 : i.op = 1
   ·rw [if_pos o1]
    have hq0 : q = 0 := by
     have : i.ar = 0 := by unfold Cod.Ins.ar; rw [if_neg (by omega)]
     rw [this, Cod.sk_zero] at hq; simpa using hq.symm
    subst hq0; obtain ⟨g1, g2, g3⟩ := fresh_go hI; exact ⟨g1, hs.go g1, rfl, g2, fun e => ⟨rfl, g3 e⟩⟩
   rw [if_neg o1]
   by_cases o2 : i.op = 2 ∨ i.op = 3
   ·rw [if_pos o2]
    have hq0 : q = 0 := by
     have : i.ar = 0 := by unfold Cod.Ins.ar; rw [if_neg (by omega)]
     rw [this, Cod.sk_zero] at hq; simpa using hq.symm
    subst hq0; obtain ⟨s0, s1⟩ := hsl i hm o2; exact slotX_ok hI hs s0 (by omega) (a + 1)
   rw [if_neg o2]
   by_cases o4 : i.op = 4
   ·rw [if_pos o4]
    have hq0 : q = 0 := by
     have : i.ar = 0 := by unfold Cod.Ins.ar; rw [if_neg (by omega)]
     rw [this, Cod.sk_zero] at hq; simpa using hq.symm
    subst hq0; exact putXE_ok hI hs (MOk.nil S) (int_ckX _) (a + 1)
   rw [if_neg o4]
   by_cases o5 : i.op = 5
   ·rw [if_pos o5]
    have hq0 : q = 0 := by
     have : i.ar = 0 := by unfold Cod.Ins.ar; rw [if_neg (by omega)]
     rw [this, Cod.sk_zero] at hq; simpa using hq.symm
    subst hq0; exact putXE_ok hI hs (MOk.nil S) (atom_ckX (ok5X o5 ho)) (a + 1)
   rw [if_neg o5]; have o6 : i.op = 6 := by omega
   obtain ⟨a1, a2⟩ := b3 o6; have har : i.ar = i.a.toNat := by unfold Cod.Ins.ar; rw [if_pos o6]
   rw [har, ← hl'] at hq; have hp := patsX_ok (patX_ok hok hsl N) i.a.toNat (a + 1) q S sl hq (by omega) hI hs hl; generalize patsX (patX L N) i.a.toNat (a + 1) S sl = r at *; unfold compX
   by_cases he : r.err ≠ 0
   ·rw [if_pos he]
    exact ⟨hp.go, hp.slots, hp.len, hp.err, fun e => absurd e he⟩
   ·rw [if_neg he]
    obtain ⟨ra, rl, rc⟩ := hp.done (by simpa using he); have hx := putXE_ok hp.go.inv hp.slots (numM_ok rc) (comp_ckX (ok6X o6 ho) (by omega) (by omega) : checkT (compT i.s (varsX i.a.toNat)) = 0) r.at_; exact ⟨hp.go.trans hx.go, hx.slots, hx.len.trans hp.len, hx.err, fun e => ⟨by have := (hx.done e).1; omega, (hx.done e).2⟩⟩
end Go.Proofs.Ytcbijikalfodnaa.Tms
namespace Go.Proofs.Ytcbijikalfodnaa.Tms
open Go Go.RowKit Go.Proofs.Ytcbijikalfodnaa.Reg Go.Proofs.Ytcbijikalfodnaa.Rws Go.Proofs.Ytcbijikalfodnaa.Maps
open Go.Proofs.Ytcbijikalfodnaa.Cod (Ins Cod sk check slotsN InsSl InsAt)
abbrev exO (p : Nat) (lv : Value) (at_ : Int) (sv : Value) (k : Int) : Obj := .cells #[.pointer (some ⟨p, 0, none⟩), lv, .int .i64 at_, sv, .nilFunc, .func (.func 53) #[] #[], .func (.func 54) #[] #[], .func (.func 54) #[] #[], .func (.func 55) #[] #[], .func (.func 56) #[] #[], .func (.func 57) #[] #[], .int .i64 k] 88 (0, 0)
theorem insSl_keepX {w w' : World} {v : Value} {L : List Ins} (h : InsSl w v L) (hk : ∀ b, slBlk v = some b → w'.heap[b]? = w.heap[b]?) : InsSl w' v L := by
 obtain ⟨a, cap, rfl, hc⟩ := h; refine ⟨a, cap, rfl, fun j hj => ?_⟩; obtain ⟨b, off, ea, h0, h1, h2, h3⟩ := hc j hj; subst ea; have hb := hk b rfl; exact ⟨b, off, rfl, (World.cell?_of_block (a := ⟨b, _, none⟩) hb).trans h0, (World.cell?_of_block (a := ⟨b, _, none⟩) hb).trans h1, (World.cell?_of_block (a := ⟨b, _, none⟩) hb).trans h2, (World.cell?_of_block (a := ⟨b, _, none⟩) hb).trans h3⟩
structure ExAt (w0 : World) (p rb qb : Nat) (S : Sto) (D : Nat → Prop) (lv : Value) (L : List Ins) (at_ : Nat) (sl : List Int) (k : Nat) (w : World) : Prop where
 law : Law8 w0 p S D w
 row : w.heap[rb]? = some (exO p lv at_ (.slice (some ⟨qb, 0, none⟩) sl.length sl.length) k)
 slots : IFill w qb sl.length sl
 ins : InsSl w lv L
 rF : ¬ D rb ∧ w0.heap.size ≤ rb
 qF : ¬ D qb ∧ w0.heap.size ≤ qb ∧ qb ≠ rb
 iF : ∀ b, slBlk lv = some b → Free D w b ∧ b ≠ rb ∧ b ≠ qb
def EOut (rb qb : Nat) (D : Nat → Prop) (w : World) (b : Nat) : Prop := ¬ D b ∧ b ≠ rb ∧ b ≠ qb ∧ b < w.heap.size
structure EStep (rb qb : Nat) (D : Nat → Prop) (w : World) (D' : Nat → Prop) (w' : World) : Prop where
 size : w.heap.size ≤ w'.heap.size
 blk : ∀ b, EOut rb qb D w b → EOut rb qb D' w' b ∧ w'.heap[b]? = w.heap[b]?
theorem EStep.refl (rb qb : Nat) (D : Nat → Prop) (w : World) : EStep rb qb D w D w := ⟨Nat.le_refl _, fun b h => ⟨h, rfl⟩⟩
theorem EStep.trans {rb qb : Nat} {D D' D'' : Nat → Prop} {w w' w'' : World} (h : EStep rb qb D w D' w') (h' : EStep rb qb D' w' D'' w'') : EStep rb qb D w D'' w'' :=
 ⟨Nat.le_trans h.size h'.size, fun b hb => ⟨(h'.blk b (h.blk b hb).1).1, (h'.blk b (h.blk b hb).1).2.trans (h.blk b hb).2⟩⟩
section
variable {w0 w w' : World} {p rb qb at_ k : Nat} {S S' : Sto} {D D' : Nat → Prop} {lv : Value} {L : List Ins} {sl : List Int}
theorem ExAt.rlt (h : ExAt w0 p rb qb S D lv L at_ sl k w) : rb < w.heap.size := (Array.getElem?_eq_some_iff.1 h.row).1
theorem ExAt.qlt (h : ExAt w0 p rb qb S D lv L at_ sl k w) : qb < w.heap.size := h.slots.lt
theorem ExAt.did (h : ExAt w0 p rb qb S D lv L at_ sl k w) (hl : Law8 w0 p S' D' w') (hs : Step D w D' w') : ExAt w0 p rb qb S' D' lv L at_ sl k w' ∧ EStep rb qb D w D' w' := by
 have hr := hs.blk rb ⟨h.rF.1, h.rlt⟩; have hq := hs.blk qb ⟨h.qF.1, h.qlt⟩
 exact ⟨⟨hl, hr.2.trans h.row, h.slots.keep hq.2, insSl_keepX h.ins fun b e => (hs.blk b (h.iF b e).1).2, ⟨hr.1.1, h.rF.2⟩, ⟨hq.1.1, h.qF.2⟩, fun b e => ⟨(hs.blk b (h.iF b e).1).1, (h.iF b e).2⟩⟩,
  hs.size, fun b hb => ⟨⟨(hs.blk b ⟨hb.1, hb.2.2.2⟩).1.1, hb.2.1, hb.2.2.1, (hs.blk b ⟨hb.1, hb.2.2.2⟩).1.2⟩, (hs.blk b ⟨hb.1, hb.2.2.2⟩).2⟩⟩
theorem ExAt.below (h : ExAt w0 p rb qb S D lv L at_ sl k w) (hb : Below w.heap.size w w') : ExAt w0 p rb qb S D lv L at_ sl k w' ∧ EStep rb qb D w D w' ∧ ∀ b, w.heap.size ≤ b → b < w'.heap.size → EOut rb qb D w' b := by
 obtain ⟨h1, h2, h3⟩ := h.law.below hb; obtain ⟨g1, g2⟩ := h.did h1 h2; exact ⟨g1, g2, fun b hb1 hb2 => ⟨(h3 b hb1 hb2).1, fun e => by have := h.rlt; omega, fun e => by have := h.qlt; omega, hb2⟩⟩
theorem ExAt.other (h : ExAt w0 p rb qb S D lv L at_ sl k w) (hb : Below w0.heap.size w0 w') (hz : w.heap.size ≤ w'.heap.size) (hk : ∀ b, b < w.heap.size → D b ∨ b = rb ∨ b = qb ∨ slBlk lv = some b → w'.heap[b]? = w.heap[b]?) : ExAt w0 p rb qb S D lv L at_ sl k w' :=
 ⟨⟨h.law.sto.keep hz fun b hlt hd => hk b hlt (.inl hd), h.law.own, hb⟩, (hk rb h.rlt (.inr (.inl rfl))).trans h.row, h.slots.keep (hk qb h.qlt (.inr (.inr (.inl rfl)))), insSl_keepX h.ins fun b e => hk b (h.iF b e).1.2 (.inr (.inr (.inr e))), h.rF, h.qF, fun b e => ⟨⟨(h.iF b e).1.1, Nat.lt_of_lt_of_le (h.iF b e).1.2 hz⟩, (h.iF b e).2⟩⟩
theorem ExAt.setRow (h : ExAt w0 p rb qb S D lv L at_ sl k w) {o at' k' : Nat} {v : Value} (hrow : (w.setCell ⟨rb, o, none⟩ v).heap[rb]? = some (exO p lv at' (.slice (some ⟨qb, 0, none⟩) sl.length sl.length) k')) : ExAt w0 p rb qb S D lv L at' sl k' (w.setCell ⟨rb, o, none⟩ v) ∧ EStep rb qb D w D (w.setCell ⟨rb, o, none⟩ v) := by
 have hz : (w.setCell ⟨rb, o, none⟩ v).heap.size = w.heap.size := by simp [World.setCell]
 have hb : ∀ b, b ≠ rb → (w.setCell ⟨rb, o, none⟩ v).heap[b]? = w.heap[b]? := fun b hb => Below.heap_setCell _ _ _ _ hb
 exact ⟨⟨⟨h.law.sto.keep (by omega) fun b _ hd => hb b fun e => h.rF.1 (e ▸ hd), h.law.own, h.law.bel.setCell h.rF.2 _⟩, hrow, h.slots.keep (hb qb h.qF.2.2), insSl_keepX h.ins fun b e => hb b (h.iF b e).2.1, h.rF, h.qF, fun b e => ⟨⟨(h.iF b e).1.1, by rw [hz]; exact (h.iF b e).1.2⟩, (h.iF b e).2⟩⟩,
  by omega, fun b hb' => ⟨⟨hb'.1, hb'.2.1, hb'.2.2.1, by rw [hz]; exact hb'.2.2.2⟩, hb b hb'.2.1⟩⟩
theorem ExAt.setAt (h : ExAt w0 p rb qb S D lv L at_ sl k w) (x : Nat) : ExAt w0 p rb qb S D lv L x sl k (w.setCell ⟨rb, 2, none⟩ (.int .i64 x)) ∧ EStep rb qb D w D (w.setCell ⟨rb, 2, none⟩ (.int .i64 x)) :=
 h.setRow (heap_setCell_same w rb 2 _ _ (.int .i64 x) h.row)
theorem ExAt.setWork (h : ExAt w0 p rb qb S D lv L at_ sl k w) (x : Nat) : ExAt w0 p rb qb S D lv L at_ sl x (w.setCell ⟨rb, 11, none⟩ (.int .i64 x)) ∧ EStep rb qb D w D (w.setCell ⟨rb, 11, none⟩ (.int .i64 x)) :=
 h.setRow (heap_setCell_same w rb 11 _ _ (.int .i64 x) h.row)
theorem IFill.set {g n j : Nat} {l : List Int} (h : IFill w g n l) (hj : j < n) (x : Int) : (∃ y, w.cell? ⟨g, j, none⟩ = some y) ∧ w.frozen? ⟨g, j, none⟩ = false ∧ IFill (w.setCell ⟨g, j, none⟩ (.int .i64 x)) g n (l.set j x) := by
 obtain ⟨cs, h1, h2⟩ := h.row; have e1 := heap_setCell_same w g j _ _ (.int .i64 x) h1; refine ⟨⟨cs[j]'(by omega), by rw [cell_of_row w g j _ _ _ h1]; simp [h2, hj]⟩, by simp [World.frozen?, h1], ⟨_, e1, by simp [h2]⟩, fun i hi => ?_⟩; rw [cell_of_row _ g i _ _ _ e1]; have hi' : i < l.length := by simpa using hi
 have hg := h.got i hi'; rw [cell_of_row w g i _ _ _ h1] at hg; rw [List.getElem_set]
 by_cases e : j = i
 ·subst e
  rw [if_pos rfl]
  simp [h2, hj]
 ·rw [if_neg e, Array.getElem?_setIfInBounds_ne (by omega)]
  exact hg
theorem ExAt.setSlot (h : ExAt w0 p rb qb S D lv L at_ sl k w) (j : Nat) (hj : j < sl.length) (x : Int) : (∃ y, w.cell? ⟨qb, j, none⟩ = some y) ∧ w.frozen? ⟨qb, j, none⟩ = false ∧ ExAt w0 p rb qb S D lv L at_ (sl.set j x) k (w.setCell ⟨qb, j, none⟩ (.int .i64 x)) ∧ EStep rb qb D w D (w.setCell ⟨qb, j, none⟩ (.int .i64 x)) := by
 obtain ⟨g1, g2, g3⟩ := IFill.set h.slots hj x; have hz : (w.setCell ⟨qb, j, none⟩ (.int .i64 x)).heap.size = w.heap.size := by simp [World.setCell]
 have hb : ∀ b, b ≠ qb → (w.setCell ⟨qb, j, none⟩ (.int .i64 x)).heap[b]? = w.heap[b]? := fun b hb => Below.heap_setCell _ _ _ _ hb
 exact ⟨g1, g2, ⟨⟨h.law.sto.keep (by omega) fun b _ hd => hb b fun e => h.qF.1 (e ▸ hd), h.law.own, h.law.bel.setCell h.qF.2.1 _⟩, by rw [List.length_set]; exact (hb rb (Ne.symm h.qF.2.2)).trans h.row, by rw [List.length_set]; exact g3, insSl_keepX h.ins fun b e => hb b (h.iF b e).2.2, h.rF, h.qF, fun b e => ⟨⟨(h.iF b e).1.1, by rw [hz]; exact (h.iF b e).1.2⟩, (h.iF b e).2⟩⟩,
  by omega, fun b hb' => ⟨⟨hb'.1, hb'.2.1, hb'.2.2.1, by rw [hz]; exact hb'.2.2.2⟩, hb b hb'.2.2.1⟩⟩
end
def ExPost (w0 : World) (p rb qb : Nat) (lv : Value) (L : List Ins) (k : Nat) (D : Nat → Prop) (w : World) (r : PtR) (e : Ending) (w' : World) : Prop :=
 e = .returned (.tuple #[.int .i64 r.cell, .int .i64 r.err]) ∧ ∃ D', ExAt w0 p rb qb r.S D' lv L r.at_ r.sl k w' ∧ EStep rb qb D w D' w'
theorem row12 {w : World} {g : Nat} {y0 y1 y2 y3 y4 y5 y6 y7 y8 y9 y10 y11 : Value} {T : TypeId} {fr : Nat × Nat} (h : w.heap[g]? = some (.cells #[y0, y1, y2, y3, y4, y5, y6, y7, y8, y9, y10, y11] T fr)) :
 w.cell? ⟨g, 0, none⟩ = some y0 ∧ w.cell? ⟨g, 1, none⟩ = some y1 ∧ w.cell? ⟨g, 2, none⟩ = some y2 ∧ w.cell? ⟨g, 3, none⟩ = some y3 ∧ w.cell? ⟨g, 11, none⟩ = some y11 :=
 ⟨cell_of_row w g 0 _ _ _ h, cell_of_row w g 1 _ _ _ h, cell_of_row w g 2 _ _ _ h, cell_of_row w g 3 _ _ _ h, cell_of_row w g 11 _ _ _ h⟩
end Go.Proofs.Ytcbijikalfodnaa.Tms
namespace Go.Proofs.Ytcbijikalfodnaa.Tms
open Go Go.RowKit Go.Proofs.Ytcbijikalfodnaa.Reg Go.Proofs.Ytcbijikalfodnaa.Rws Go.Proofs.Ytcbijikalfodnaa.Maps
section
variable {w0 w w' : World} {p : Nat} {S S' : Sto} {D D' : Nat → Prop}
theorem law_Put0 (h : Law8 w0 p S D w) (hI : Inv S) {t : Tm} {v : Value} {P : Nat → Prop} (ht : IsTm w P v t) (hP : ∀ b, P b → ¬ D b) (hs : t.size ≤ 20000) :
 Calls Try.prog 17 #[.pointer (some ⟨p, 0, none⟩), v, .map none] w fun e w' => e = .returned (.tuple #[.int .i64 (putA S [] t).1, .int .i64 (putA S [] t).2]) ∧ LawDid w0 p D w (putW S [] t) w' := by
 have hv : VMap w (.map none) [] := .inl ⟨rfl, rfl⟩; have hd' : ∀ b, Value.map none = .map (some b) → ¬ D b := fun b e => by cases e
 have hsm := hI.small; unfold putA putW
 by_cases h1 : checkT t ≠ 0
 ·simp only [if_pos h1]
  refine (sto_Put_check w h.sto t v none P [] (by omega) ht hv hd' h1).mono ?_; rintro e w' ⟨rfl, hb⟩; exact ⟨rfl, D, (h.below hb).1, (h.below hb).2.1⟩
 simp only [if_neg h1]; have h1' : checkT t = 0 := by simpa using h1
 by_cases h2 : (cntM S [] t).1 = false
 ·simp only [if_pos h2]
  refine (sto_Put_arg w h.sto t v none P [] (by omega) ht hv hd' h1' h2).mono ?_; rintro e w' ⟨rfl, hb⟩; exact ⟨rfl, D, (h.below hb).1, (h.below hb).2.1⟩
 simp only [if_neg h2]; have h2' : (cntM S [] t).1 = true := by simpa using h2
 by_cases h3 : S.room - S.cells.length < ((cntM S [] t).2.1 : Int)
 ·simp only [if_pos h3]
  refine (sto_Put_full w h.sto t v none P [] (by omega) ht hv hd' (by omega) hI.room0 hI.room h1' h2' h3).mono ?_; rintro e w' ⟨rfl, hb⟩; exact ⟨rfl, D, (h.below hb).1, (h.below hb).2.1⟩
 simp only [if_neg h3]; refine (sto_Put_ok w h.sto t v none P [] (by omega) ht hv hd' hP (by omega) hI.room0 hI.room h1' h2' (by unfold cntM at h3; omega)).mono ?_; intro e w' hp; obtain ⟨rfl, hd⟩ := put_nil hp ⟨rfl, rfl⟩; exact ⟨rfl, h.did hd⟩
end
end Go.Proofs.Ytcbijikalfodnaa.Tms
namespace Go.Proofs.Ytcbijikalfodnaa.Tms
open Go Go.RowKit Go.Proofs.Ytcbijikalfodnaa.Reg Go.Proofs.Ytcbijikalfodnaa.Rws Go.Proofs.Ytcbijikalfodnaa.Maps
open Go.Proofs.Ytcbijikalfodnaa.Cod (Ins Cod sk check slotsN InsSl InsAt)
section
variable {w0 w : World} {p rb qb a k : Nat} {S : Sto} {D : Nat → Prop} {lv : Value} {L : List Ins} {sl : List Int}
theorem ex_any (h : ExAt w0 p rb qb S D lv L a sl k w) (hI : Inv S) (i : Ins) : Calls Try.prog 53 #[.pointer (some ⟨rb, 0, none⟩), i.val] w (ExPost w0 p rb qb lv L k D w ⟨(freshA S).1, (freshA S).2, a, freshW S, sl⟩) := by
 have hal := (Below.refl w.heap.size w).alloc (Nat.le_refl _) (.cells #[.int .i64 i.op, .int .i64 i.a, .int .i64 i.n, .string i.s] 71 (0, 0)); have hnw := heap_alloc_new w (.cells #[.int .i64 i.op, .int .i64 i.a, .int .i64 i.n, .string i.s] 71 (0, 0)); obtain ⟨h1, s1, f1⟩ := h.below hal; have HGE := Lib.hid (f1 w.heap.size (Nat.le_refl _) (by simp)); have HW := Lib.hid h1; have HS := Lib.hid s1; have HN := Lib.hid hnw; clear hal hnw h1 s1 f1 h
 go_enter Try.func53, Try.ntmps53
 obtain ⟨c0, c1, c2, c3, c11⟩ := row12 HW.out.row
 go_wp2_with fail
 refine (law_FreshE HW.out.law hI).mono ?_; rintro e3 w3 ⟨rfl, D3, l3, s3⟩; obtain ⟨h3, t3⟩ := HW.out.did l3 s3; have H3 := Lib.hid h3; have HS3 := Lib.hid (HS.out.trans t3); clear h3 t3 l3 s3 c0 c1 c2 c3 c11 HW HS HN; go_wp2; go_ret2; exact ⟨rfl, D3, H3.out, HS3.out⟩
theorem ex_num (h : ExAt w0 p rb qb S D lv L a sl k w) (hI : Inv S) (i : Ins) : Calls Try.prog 55 #[.pointer (some ⟨rb, 0, none⟩), i.val] w (ExPost w0 p rb qb lv L k D w (putXE a S sl [] (intT i.n))) := by
 have hal := (Below.refl w.heap.size w).alloc (Nat.le_refl _) (.cells #[.int .i64 i.op, .int .i64 i.a, .int .i64 i.n, .string i.s] 71 (0, 0)); have hnw := heap_alloc_new w (.cells #[.int .i64 i.op, .int .i64 i.a, .int .i64 i.n, .string i.s] 71 (0, 0)); obtain ⟨h1, s1, f1⟩ := h.below hal; have HGE := Lib.hid (f1 w.heap.size (Nat.le_refl _) (by simp)); have HW := Lib.hid h1; have HS := Lib.hid s1; have HN := Lib.hid hnw; clear hal hnw h1 s1 f1 h
 go_enter Try.func55, Try.ntmps55
 go_upto_region 1 with fail
 generalize w.alloc (.cells #[.int .i64 i.op, .int .i64 i.a, .int .i64 i.n, .string i.s] 71 (0, 0)) = W1 at *; generalize w.heap.size = g at *; refine wp_region_rest (by kernel_rfl) ?_; have hd := (Below.refl W1.heap.size W1).drew; obtain ⟨h2, s2, -⟩ := HW.out.below hd; have HW0 := Lib.hid h2; have HS0 := Lib.hid (HS.out.trans s2); have hn2 := row_on HN.out hd; have HGE0 := Lib.hid (s2.blk g HGE.out).1; clear h2 s2 hd; generalize W1.drew = W0 at *; obtain ⟨c0, c1, c2, c3, c11⟩ := row12 HW0.out.row; obtain ⟨x0, x1, x2, x3⟩ := row4 hn2; have HN0 := Lib.hid hn2; clear hn2; clear HW HS HN; refine rest_chainP (fun u => u = W0) 0 7 (.soft 0 (.soft 1 (.soft 2 (.soft 3 (.soft 4 (.soft 5 (.soft 6 .nil))))))) (.soft _ (.soft _ (.soft _ (.soft _ (.soft _ (.soft _ (.soft _ .nil))))))) ⟨rfl, ⟨rfl, ⟨rfl, ⟨rfl, ⟨rfl, ⟨rfl, ⟨rfl, trivial⟩⟩⟩⟩⟩⟩⟩ (by kernel_rfl) (by kernel_rfl) (by kernel_rfl) (by kernel_rfl) (.inr (by kernel_rfl)) rfl ?_; refine cS (a1 := ?ma1) ?mh1 ?mr1
 case mh1 =>
  intro u hu E hE; subst hu; go_wp2; rfl
 refine chainP_nck _ _ rfl rfl rfl ?_; simp only [Act.put, zA, zB, zC, zD, zE, zF, zG, Nat.reduceAdd]; refine cS (a1 := ?ma2) ?mh2 ?mr2
 case mh2 =>
  intro u hu E hE; subst hu; go_wp2; rfl
 refine cS (a1 := ?ma3) ?mh3 ?mr3
 case mh3 =>
  intro u hu E hE; subst hu; go_wp2; rfl
 refine cS (a1 := ?ma4) ?mh4 ?mr4
 case mh4 =>
  intro u hu E hE; subst hu; go_wp2; rfl
 refine cS (a1 := ?ma5) ?mh5 ?mr5
 case mh5 =>
  intro u hu E hE; subst hu; go_wp2; rfl
 refine cS (a1 := ?ma6) ?mh6 ?mr6
 case mh6 =>
  intro u hu E hE; subst hu; go_wp2; rfl
 refine chainP_nil ?_; clear c0 c1 c2 c3 c11 x0 x1 x2 x3; refine rest_chainP (fun _ => True) 7 10 (.one 7 (.soft 8 (.soft 9 .nil))) (.one _ (.soft _ (.soft _ .nil))) ⟨rfl, ⟨rfl, ⟨rfl, trivial⟩⟩⟩ (by kernel_rfl) (by kernel_rfl) (by kernel_rfl) (by kernel_rfl) (.inr (by kernel_rfl)) trivial ?_; refine chainP_one ?_; intro E hE
 go_wp2_with (refine (law_Put0 HW0.out.law hI (int_is _ (fun _ => False) _) (fun b hb => hb.elim) (by simp [intT, atomT, Tm.size, sizeL])).mono ?_; rintro e3 w3 ⟨rfl, D3, l3, s3⟩)
 obtain ⟨h3, t3⟩ := HW0.out.did l3 s3; have H3 := Lib.hid h3; have HS3 := Lib.hid (HS0.out.trans t3); clear h3 t3 l3 s3 HW0 HS0 HN0; refine ⟨trivial, ?_⟩; refine cV (.int .i64 (putA S [] (intT i.n)).1) ?_ ?_
 ·simp only [Act.put, zA, zB, zC, zD, zE, zF, zG, Nat.reduceAdd]
  intro u hu E hE; go_wp2; exact hE
 simp only [Act.put, zA, zB, zC, zD, zE, zF, zG, Nat.reduceAdd]; refine cV (.int .i64 (putA S [] (intT i.n)).2) ?_ ?_
 ·simp only [Act.put, zA, zB, zC, zD, zE, zF, zG, Nat.reduceAdd]
  intro u hu E hE; go_wp2; exact hE
 simp only [Act.put, zA, zB, zC, zD, zE, zF, zG, Nat.reduceAdd]; refine chainP_nil ?_; refine rest_lineL 10 12 [_, _] rfl (by kernel_rfl) (by decide) (by decide) (by kernel_rfl) ?_; go_wp2; refine then_rest (rest_end (by decide) ?_); go_wp2; go_ret2; exact ⟨rfl, D3, H3.out, HS3.out⟩
theorem ex_name (h : ExAt w0 p rb qb S D lv L a sl k w) (hI : Inv S) (i : Ins) : Calls Try.prog 56 #[.pointer (some ⟨rb, 0, none⟩), i.val] w (ExPost w0 p rb qb lv L k D w (putXE a S sl [] (atomT i.s))) := by
 have hal := (Below.refl w.heap.size w).alloc (Nat.le_refl _) (.cells #[.int .i64 i.op, .int .i64 i.a, .int .i64 i.n, .string i.s] 71 (0, 0)); have hnw := heap_alloc_new w (.cells #[.int .i64 i.op, .int .i64 i.a, .int .i64 i.n, .string i.s] 71 (0, 0)); obtain ⟨h1, s1, f1⟩ := h.below hal; have HGE := Lib.hid (f1 w.heap.size (Nat.le_refl _) (by simp)); have HW := Lib.hid h1; have HS := Lib.hid s1; have HN := Lib.hid hnw; clear hal hnw h1 s1 f1 h
 go_enter Try.func56, Try.ntmps56
 go_upto_region 1 with fail
 generalize w.alloc (.cells #[.int .i64 i.op, .int .i64 i.a, .int .i64 i.n, .string i.s] 71 (0, 0)) = W1 at *; generalize w.heap.size = g at *; refine wp_region_rest (by kernel_rfl) ?_; have hd := (Below.refl W1.heap.size W1).drew; obtain ⟨h2, s2, -⟩ := HW.out.below hd; have HW0 := Lib.hid h2; have HS0 := Lib.hid (HS.out.trans s2); have hn2 := row_on HN.out hd; have HGE0 := Lib.hid (s2.blk g HGE.out).1; clear h2 s2 hd; generalize W1.drew = W0 at *; obtain ⟨c0, c1, c2, c3, c11⟩ := row12 HW0.out.row; obtain ⟨x0, x1, x2, x3⟩ := row4 hn2; have HN0 := Lib.hid hn2; clear hn2; clear HW HS HN; refine rest_chainP (fun u => u = W0) 0 7 (.soft 0 (.soft 1 (.soft 2 (.soft 3 (.soft 4 (.soft 5 (.soft 6 .nil))))))) (.soft _ (.soft _ (.soft _ (.soft _ (.soft _ (.soft _ (.soft _ .nil))))))) ⟨rfl, ⟨rfl, ⟨rfl, ⟨rfl, ⟨rfl, ⟨rfl, ⟨rfl, trivial⟩⟩⟩⟩⟩⟩⟩ (by kernel_rfl) (by kernel_rfl) (by kernel_rfl) (by kernel_rfl) (.inr (by kernel_rfl)) rfl ?_; refine cS (a1 := ?ma7) ?mh7 ?mr7
 case mh7 =>
  intro u hu E hE; subst hu; go_wp2; rfl
 refine chainP_nck _ _ rfl rfl rfl ?_; simp only [Act.put, zA, zB, zC, zD, zE, zF, zG, Nat.reduceAdd]; refine cS (a1 := ?ma8) ?mh8 ?mr8
 case mh8 =>
  intro u hu E hE; subst hu; go_wp2; rfl
 refine cS (a1 := ?ma9) ?mh9 ?mr9
 case mh9 =>
  intro u hu E hE; subst hu; go_wp2; rfl
 refine cS (a1 := ?ma10) ?mh10 ?mr10
 case mh10 =>
  intro u hu E hE; subst hu; go_wp2; rfl
 refine cS (a1 := ?ma11) ?mh11 ?mr11
 case mh11 =>
  intro u hu E hE; subst hu; go_wp2; rfl
 refine cS (a1 := ?ma12) ?mh12 ?mr12
 case mh12 =>
  intro u hu E hE; subst hu; go_wp2; rfl
 refine chainP_nil ?_; clear c0 c1 c2 c3 c11 x0 x1 x2 x3; refine rest_chainP (fun _ => True) 7 10 (.one 7 (.soft 8 (.soft 9 .nil))) (.one _ (.soft _ (.soft _ .nil))) ⟨rfl, ⟨rfl, ⟨rfl, trivial⟩⟩⟩ (by kernel_rfl) (by kernel_rfl) (by kernel_rfl) (by kernel_rfl) (.inr (by kernel_rfl)) trivial ?_; refine chainP_one ?_; intro E hE
 go_wp2_with (refine (law_Put0 HW0.out.law hI (atom_is _ (fun _ => False) _) (fun b hb => hb.elim) (by simp [intT, atomT, Tm.size, sizeL])).mono ?_; rintro e3 w3 ⟨rfl, D3, l3, s3⟩)
 obtain ⟨h3, t3⟩ := HW0.out.did l3 s3; have H3 := Lib.hid h3; have HS3 := Lib.hid (HS0.out.trans t3); clear h3 t3 l3 s3 HW0 HS0 HN0; refine ⟨trivial, ?_⟩; refine cV (.int .i64 (putA S [] (atomT i.s)).1) ?_ ?_
 ·simp only [Act.put, zA, zB, zC, zD, zE, zF, zG, Nat.reduceAdd]
  intro u hu E hE; go_wp2; exact hE
 simp only [Act.put, zA, zB, zC, zD, zE, zF, zG, Nat.reduceAdd]; refine cV (.int .i64 (putA S [] (atomT i.s)).2) ?_ ?_
 ·simp only [Act.put, zA, zB, zC, zD, zE, zF, zG, Nat.reduceAdd]
  intro u hu E hE; go_wp2; exact hE
 simp only [Act.put, zA, zB, zC, zD, zE, zF, zG, Nat.reduceAdd]; refine chainP_nil ?_; refine rest_lineL 10 12 [_, _] rfl (by kernel_rfl) (by decide) (by decide) (by kernel_rfl) ?_; go_wp2; refine then_rest (rest_end (by decide) ?_); go_wp2; go_ret2; exact ⟨rfl, D3, H3.out, HS3.out⟩
theorem ex_slot (h : ExAt w0 p rb qb S D lv L a sl k w) (hI : Inv S) (i : Ins) (j : Nat) (hj : i.a = (j : Int)) (hjl : j < sl.length) (hsl : ∀ x ∈ sl, x = -1 ∨ 0 ≤ x) (hlen : sl.length ≤ 1000000) : Calls Try.prog 54 #[.pointer (some ⟨rb, 0, none⟩), i.val] w (ExPost w0 p rb qb lv L k D w (slotX i a S sl)) := by
 have hg0 := h.slots.got j hjl; have HJ := Lib.hid hj; clear hj; have hal := (Below.refl w.heap.size w).alloc (Nat.le_refl _) (.cells #[.int .i64 i.op, .int .i64 i.a, .int .i64 i.n, .string i.s] 71 (0, 0)); have hnw := heap_alloc_new w (.cells #[.int .i64 i.op, .int .i64 i.a, .int .i64 i.n, .string i.s] 71 (0, 0)); obtain ⟨h1, s1, f1⟩ := h.below hal; have HGE := Lib.hid (f1 w.heap.size (Nat.le_refl _) (by simp)); have HW := Lib.hid h1; have HS := Lib.hid s1; have HN := Lib.hid hnw; clear hal hnw h1 s1 f1 h hg0
 go_enter Try.func54, Try.ntmps54
 go_upto_region 1 with fail
 generalize w.alloc (.cells #[.int .i64 i.op, .int .i64 i.a, .int .i64 i.n, .string i.s] 71 (0, 0)) = W1 at *; generalize w.heap.size = g at *; refine wp_region_rest (by kernel_rfl) ?_; have hd := (Below.refl W1.heap.size W1).drew; obtain ⟨h2, s2, -⟩ := HW.out.below hd; have HW0 := Lib.hid h2; have HS0 := Lib.hid (HS.out.trans s2); have hn2 := row_on HN.out hd; have HGE0 := Lib.hid (s2.blk g HGE.out).1; clear h2 s2 hd; generalize W1.drew = W0 at *; obtain ⟨c0, c1, c2, c3, c11⟩ := row12 HW0.out.row; obtain ⟨x0, x1, x2, x3⟩ := row4 hn2; have HN0 := Lib.hid hn2; clear hn2; clear HW HS HN; rw [HJ.out] at x1; have hq := HW0.out.slots.got j hjl; obtain ⟨v, hv⟩ : ∃ v, v = sl[j] := ⟨_, rfl⟩; rw [← hv] at hq; have HV := Lib.hid hv; clear hv; have hcl : sl.length ≤ maxLen := by unfold maxLen; omega
 have hjt : i.a.toNat = j := by rw [HJ.out]; simp
 have hgd : sl.getD i.a.toNat 0 = v := by rw [hjt, HV.out]; simp [List.getD, List.getElem?_eq_getElem hjl]
 have HGD := Lib.hid (And.intro hjt hgd); clear hjt hgd
 by_cases hn : v < 0
 ·have b1 : decide (v < 0) = true := by simpa using hn
  have HX := Lib.hid (show slotX i a S sl = (if (freshA S).2 ≠ 0 then ⟨0, (freshA S).2, a, freshW S, sl⟩ else ⟨(freshA S).1, 0, a, freshW S, sl.set j (freshA S).1⟩) by unfold slotX; rw [HGD.out.2, HGD.out.1, if_pos hn]); clear hn; refine rest_chainP (fun u => u = W0) 0 6 (.soft 0 (.soft 1 (.soft 2 (.soft 3 (.soft 4 (.soft 5 .nil)))))) (.soft _ (.soft _ (.soft _ (.soft _ (.soft _ (.soft _ .nil)))))) ⟨rfl, ⟨rfl, ⟨rfl, ⟨rfl, ⟨rfl, ⟨rfl, trivial⟩⟩⟩⟩⟩⟩ (by kernel_rfl) (by kernel_rfl) (by kernel_rfl) (by kernel_rfl) (.inr (by kernel_rfl)) rfl ?_; refine cS (a1 := ?ma13) ?mh13 ?mr13
  case mh13 =>
   intro u hu E hE; subst hu; go_wp2; rfl
  refine chainP_nck _ _ rfl rfl rfl ?_; simp only [Act.put, zA, zB, zC, zD, zE, zF, zG, Nat.reduceAdd]; refine cS (a1 := ?ma14) ?mh14 ?mr14
  case mh14 =>
   intro u hu E hE; subst hu; go_wp2; rfl
  refine cS (a1 := ?ma15) ?mh15 ?mr15
  case mh15 =>
   intro u hu E hE; subst hu; go_wp2; rfl
  refine cS (a1 := ?ma16) ?mh16 ?mr16
  case mh16 =>
   intro u hu E hE; subst hu; go_wp2; rfl
  refine cS (a1 := ?ma17) ?mh17 ?mr17
  case mh17 =>
   intro u hu E hE; subst hu; go_wp2; rfl
  refine chainP_nil ?_; refine rest_lineL 6 9 [_, _, _] rfl (by kernel_rfl) (by decide) (by decide) (by kernel_rfl) ?_; go_wp2; refine then_rest (rest_end (by decide) ?_); clear hq
  go_wp2_with fail
  refine (law_FreshE HW0.out.law hI).mono ?_; rintro e3 w3 ⟨rfl, D3, l3, s3⟩; obtain ⟨h3, t3⟩ := HW0.out.did l3 s3; have H3 := Lib.hid h3; have HS3 := Lib.hid (HS0.out.trans t3); have HN3 := Lib.hid ((t3.blk g HGE0.out).2.trans HN0.out); have HG3 := Lib.hid (t3.blk g HGE0.out).1; obtain ⟨f1, hf1⟩ : ∃ f, f = (freshA S).1 := ⟨_, rfl⟩; obtain ⟨f2, hf2⟩ : ∃ f, f = (freshA S).2 := ⟨_, rfl⟩; rw [← hf1, ← hf2] at HX ⊢; clear h3 t3 l3 s3 c0 c1 c2 c3 c11 x0 x1 x2 x3 HW0 HS0 HN0 HGE0 hf1 hf2
  by_cases he : f2 = 0
  ·have b2 : (f2 != 0) = false := by simpa using he
   have HE := Lib.hid he; clear he
   go_upto_region 5 with fail
   refine wp_region_rest (by kernel_rfl) ?_; have hd := (Below.refl w3.heap.size w3).drew; obtain ⟨h4, s4, -⟩ := H3.out.below hd; have hn4 := row_on HN3.out hd; have HG4 := Lib.hid (s4.blk g HG3.out).1; have HS4 := Lib.hid (HS3.out.trans s4); clear hd s4 H3 HS3 HN3 HG3; generalize w3.drew = W4 at *; obtain ⟨c0, c1, c2, c3, c11⟩ := row12 h4.row; obtain ⟨x0, x1, x2, x3⟩ := row4 hn4; rw [HJ.out] at x1; obtain ⟨⟨y, hy⟩, hfz, h5, s5⟩ := h4.setSlot j hjl f1; have H5 := Lib.hid h5; have HS5 := Lib.hid (HS4.out.trans s5); have HN5 := Lib.hid ((s5.blk g HG4.out).2.trans hn4); have HG5 := Lib.hid (s5.blk g HG4.out).1; clear h4 h5 s5 hn4 HS4 HG4; refine rest_chainP (fun u => u = W4) 0 7 (.soft 0 (.soft 1 (.soft 2 (.soft 3 (.soft 4 (.soft 5 (.soft 6 .nil))))))) (.soft _ (.soft _ (.soft _ (.soft _ (.soft _ (.soft _ (.soft _ .nil))))))) ⟨rfl, ⟨rfl, ⟨rfl, ⟨rfl, ⟨rfl, ⟨rfl, ⟨rfl, trivial⟩⟩⟩⟩⟩⟩⟩ (by kernel_rfl) (by kernel_rfl) (by kernel_rfl) (by kernel_rfl) (.inr (by kernel_rfl)) rfl ?_; refine cS (a1 := ?ma18) ?mh18 ?mr18
   case mh18 =>
    intro u hu E hE; subst hu; go_wp2; rfl
   refine chainP_nck _ _ rfl rfl rfl ?_; simp only [Act.put, zA, zB, zC, zD, zE, zF, zG, Nat.reduceAdd]; refine cS (a1 := ?ma19) ?mh19 ?mr19
   case mh19 =>
    intro u hu E hE; subst hu; go_wp2; rfl
   refine cS (a1 := ?ma20) ?mh20 ?mr20
   case mh20 =>
    intro u hu E hE; subst hu; go_wp2; rfl
   refine cS (a1 := ?ma21) ?mh21 ?mr21
   case mh21 =>
    intro u hu E hE; subst hu; go_wp2; rfl
   refine cS (a1 := ?ma22) ?mh22 ?mr22
   case mh22 =>
    intro u hu E hE; subst hu; go_wp2; rfl
   refine cS (a1 := ?ma23) ?mh23 ?mr23
   case mh23 =>
    intro u hu E hE; subst hu; go_wp2; rfl
   refine chainP_nil ?_; refine rest_lineL 7 9 [_, _] rfl (by kernel_rfl) (by decide) (by decide) (by kernel_rfl) ?_; go_wp2; refine then_rest (rest_end (by decide) ?_); clear c0 c1 c2 c3 c11 x0 x1 x2 x3 hy hfz
   go_upto_region 6 with fail
   generalize W4.setCell ⟨qb, j, none⟩ (.int .i64 f1) = W5 at *; refine wp_region_rest (by kernel_rfl) ?_; have hd := (Below.refl W5.heap.size W5).drew; obtain ⟨h6, s6, -⟩ := H5.out.below hd; have hn6 := row_on HN5.out hd; have HS6 := Lib.hid (HS5.out.trans s6); clear hd s6 H5 HS5 HN5 HG5; generalize W5.drew = W6 at *; obtain ⟨c0, c1, c2, c3, c11⟩ := row12 h6.row; obtain ⟨x0, x1, x2, x3⟩ := row4 hn6; rw [HJ.out] at x1; have hq : W6.cell? ⟨qb, j, none⟩ = some (.int .i64 f1) := (h6.slots.got j (by rw [List.length_set]; exact hjl)).trans (by rw [List.getElem_set_self]); have H6 := Lib.hid h6; clear h6 hn6; refine rest_chainP (fun u => u = W6) 0 6 (.soft 0 (.soft 1 (.soft 2 (.soft 3 (.soft 4 (.soft 5 .nil)))))) (.soft _ (.soft _ (.soft _ (.soft _ (.soft _ (.soft _ .nil)))))) ⟨rfl, ⟨rfl, ⟨rfl, ⟨rfl, ⟨rfl, ⟨rfl, trivial⟩⟩⟩⟩⟩⟩ (by kernel_rfl) (by kernel_rfl) (by kernel_rfl) (by kernel_rfl) (.inr (by kernel_rfl)) rfl ?_; refine cS (a1 := ?ma24) ?mh24 ?mr24
   case mh24 =>
    intro u hu E hE; subst hu; go_wp2; rfl
   refine chainP_nck _ _ rfl rfl rfl ?_; simp only [Act.put, zA, zB, zC, zD, zE, zF, zG, Nat.reduceAdd]; refine cS (a1 := ?ma25) ?mh25 ?mr25
   case mh25 =>
    intro u hu E hE; subst hu; go_wp2; rfl
   refine cS (a1 := ?ma26) ?mh26 ?mr26
   case mh26 =>
    intro u hu E hE; subst hu; go_wp2; rfl
   refine cS (a1 := ?ma27) ?mh27 ?mr27
   case mh27 =>
    intro u hu E hE; subst hu; go_wp2; rfl
   refine cS (a1 := ?ma28) ?mh28 ?mr28
   case mh28 =>
    intro u hu E hE; subst hu; go_wp2; rfl
   refine chainP_nil ?_; refine rest_lineL 6 10 [_, _, _, _] rfl (by kernel_rfl) (by decide) (by decide) (by kernel_rfl) ?_; go_wp2; refine then_rest (rest_end (by decide) ?_); go_wp2; go_ret2; rw [HX.out, if_neg (fun h => h HE.out)]; rw [List.length_set] at *; exact ⟨rfl, D3, H6.out, HS6.out⟩
  ·have b2 : (f2 != 0) = true := by simpa using he
   have HE := Lib.hid he; clear he; go_wp2; go_ret2; rw [HX.out, if_pos HE.out]; exact ⟨rfl, D3, H3.out, HS3.out⟩
 ·have b1 : decide (v < 0) = false := by simpa using hn
  have HX := Lib.hid (show slotX i a S sl = ⟨v, 0, a, S, sl⟩ by unfold slotX; rw [HGD.out.2, if_neg hn]); clear hn; refine rest_chainP (fun u => u = W0) 0 6 (.soft 0 (.soft 1 (.soft 2 (.soft 3 (.soft 4 (.soft 5 .nil)))))) (.soft _ (.soft _ (.soft _ (.soft _ (.soft _ (.soft _ .nil)))))) ⟨rfl, ⟨rfl, ⟨rfl, ⟨rfl, ⟨rfl, ⟨rfl, trivial⟩⟩⟩⟩⟩⟩ (by kernel_rfl) (by kernel_rfl) (by kernel_rfl) (by kernel_rfl) (.inr (by kernel_rfl)) rfl ?_; refine cS (a1 := ?ma29) ?mh29 ?mr29
  case mh29 =>
   intro u hu E hE; subst hu; go_wp2; rfl
  refine chainP_nck _ _ rfl rfl rfl ?_; simp only [Act.put, zA, zB, zC, zD, zE, zF, zG, Nat.reduceAdd]; refine cS (a1 := ?ma30) ?mh30 ?mr30
  case mh30 =>
   intro u hu E hE; subst hu; go_wp2; rfl
  refine cS (a1 := ?ma31) ?mh31 ?mr31
  case mh31 =>
   intro u hu E hE; subst hu; go_wp2; rfl
  refine cS (a1 := ?ma32) ?mh32 ?mr32
  case mh32 =>
   intro u hu E hE; subst hu; go_wp2; rfl
  refine cS (a1 := ?ma33) ?mh33 ?mr33
  case mh33 =>
   intro u hu E hE; subst hu; go_wp2; rfl
  refine chainP_nil ?_; refine rest_lineL 6 9 [_, _, _] rfl (by kernel_rfl) (by decide) (by decide) (by kernel_rfl) ?_; go_wp2; refine then_rest (rest_end (by decide) ?_); clear hq c0 c1 c2 c3 c11 x0 x1 x2 x3
  go_upto_region 6 with fail
  refine wp_region_rest (by kernel_rfl) ?_; have hd := (Below.refl W0.heap.size W0).drew; obtain ⟨h6, s6, -⟩ := HW0.out.below hd; have hn6 := row_on HN0.out hd; have HS6 := Lib.hid (HS0.out.trans s6); clear hd s6 HW0 HS0 HN0 HGE0; generalize W0.drew = W6 at *; obtain ⟨c0, c1, c2, c3, c11⟩ := row12 h6.row; obtain ⟨x0, x1, x2, x3⟩ := row4 hn6; rw [HJ.out] at x1; have hq : W6.cell? ⟨qb, j, none⟩ = some (.int .i64 v) := by rw [HV.out]; exact h6.slots.got j hjl
  have H6 := Lib.hid h6; clear h6 hn6; refine rest_chainP (fun u => u = W6) 0 6 (.soft 0 (.soft 1 (.soft 2 (.soft 3 (.soft 4 (.soft 5 .nil)))))) (.soft _ (.soft _ (.soft _ (.soft _ (.soft _ (.soft _ .nil)))))) ⟨rfl, ⟨rfl, ⟨rfl, ⟨rfl, ⟨rfl, ⟨rfl, trivial⟩⟩⟩⟩⟩⟩ (by kernel_rfl) (by kernel_rfl) (by kernel_rfl) (by kernel_rfl) (.inr (by kernel_rfl)) rfl ?_; refine cS (a1 := ?ma34) ?mh34 ?mr34
  case mh34 =>
   intro u hu E hE; subst hu; go_wp2; rfl
  refine chainP_nck _ _ rfl rfl rfl ?_; simp only [Act.put, zA, zB, zC, zD, zE, zF, zG, Nat.reduceAdd]; refine cS (a1 := ?ma35) ?mh35 ?mr35
  case mh35 =>
   intro u hu E hE; subst hu; go_wp2; rfl
  refine cS (a1 := ?ma36) ?mh36 ?mr36
  case mh36 =>
   intro u hu E hE; subst hu; go_wp2; rfl
  refine cS (a1 := ?ma37) ?mh37 ?mr37
  case mh37 =>
   intro u hu E hE; subst hu; go_wp2; rfl
  refine cS (a1 := ?ma38) ?mh38 ?mr38
  case mh38 =>
   intro u hu E hE; subst hu; go_wp2; rfl
  refine chainP_nil ?_; refine rest_lineL 6 10 [_, _, _, _] rfl (by kernel_rfl) (by decide) (by decide) (by kernel_rfl) ?_; go_wp2; refine then_rest (rest_end (by decide) ?_); go_wp2; go_ret2; rw [HX.out]; exact ⟨rfl, D, H6.out, HS6.out⟩
end
theorem ExAt.setAtO {w0 w : World} {p rb qb at_ k : Nat} {S : Sto} {D : Nat → Prop} {lv : Value} {L : List Ins} {sl : List Int} (h : ExAt w0 p rb qb S D lv L at_ sl k w) (x : Nat) : (∀ b, b ≠ rb → (w.setCell ⟨rb, 2, none⟩ (.int .i64 x)).heap[b]? = w.heap[b]?) ∧ w.frozen? ⟨rb, 2, none⟩ = false := ⟨fun b hb => Below.heap_setCell _ _ _ _ hb, by simp [World.frozen?, h.row]⟩
theorem size_instr : (Try.prog.info? 71).map (·.size) = some 4 := by kernel_rfl
theorem ExAt.setOut {w0 w : World} {p rb qb at_ k g : Nat} {S : Sto} {D : Nat → Prop} {lv : Value} {L : List Ins} {sl : List Int} (h : ExAt w0 p rb qb S D lv L at_ sl k w) (hg : EOut rb qb D w g) (h0 : w0.heap.size ≤ g) (hn : slBlk lv ≠ some g) (cs : Array Value) : ExAt w0 p rb qb S D lv L at_ sl k (w.setRow g cs) :=
 h.other (below_setRow h.law.bel h0 cs) (by simp) fun b _ hb => setRow_other _ _ _ _ fun e => by
  subst e; rcases hb with hb | hb | hb | hb
  ·exact hg.1 hb
  ·exact hg.2.1 hb
  ·exact hg.2.2.1 hb
  ·exact hn hb
theorem EStep.setRow {rb qb g : Nat} {D D' : Nat → Prop} {w w' : World} (h : EStep rb qb D w D' w') (hg : w.heap.size ≤ g) (cs : Array Value) : EStep rb qb D w D' (w'.setRow g cs) :=
 ⟨by simpa using h.size, fun b hb => ⟨⟨(h.blk b hb).1.1, (h.blk b hb).1.2.1, (h.blk b hb).1.2.2.1, by simpa using (h.blk b hb).1.2.2.2⟩, (setRow_other _ _ _ _ (by have := hb.2.2.2; omega)).trans (h.blk b hb).2⟩⟩
def PatC (w0 : World) (p rb qb : Nat) (lv : Value) (L : List Ins) (sn k N : Nat) : Prop := ∀ (a j : Nat) (S : Sto) (sl : List Int) (D : Nat → Prop) (w : World), ExAt w0 p rb qb S D lv L a sl k w → Inv S → SlOk S sl → sl.length = sn → sk (L.drop a) 1 = some j → j ≤ N → Calls Try.prog 28 #[.pointer (some ⟨rb, 0, none⟩)] w (ExPost w0 p rb qb lv L k D w (patX L N a S sl))
def CompC (w0 : World) (p rb qb : Nat) (lv : Value) (L : List Ins) (sn k N : Nat) : Prop := ∀ (i : Ins) (a q : Nat) (S : Sto) (sl : List Int) (D : Nat → Prop) (w : World), ExAt w0 p rb qb S D lv L a sl k w → Inv S → SlOk S sl → sl.length = sn → i ∈ L → i.op = 6 → 1 ≤ i.a → i.a ≤ 255 → sk (L.drop a) i.a.toNat = some q → q ≤ N → Calls Try.prog 57 #[.pointer (some ⟨rb, 0, none⟩), i.val] w (ExPost w0 p rb qb lv L k D w (compX i (patsX (patX L N) i.a.toNat a S sl)))
theorem ex_pat {w0 : World} {p rb qb sn k N : Nat} {lv : Value} {L : List Ins} (hL : L.length ≤ 20000) (hsn : sn ≤ 1000000) (hsl : ∀ i ∈ L, i.op = 2 ∨ i.op = 3 → 0 ≤ i.a ∧ i.a < sn) (hC : CompC w0 p rb qb lv L sn k N) : PatC w0 p rb qb lv L sn k (N + 1) := by
 intro a j S sl D w h hI hs hl hk hj; obtain ⟨i, l', q, hd, hb, hq, hjq⟩ := sk_one hk; obtain ⟨b1, b2, b3⟩ := not_bad hb
 have hla : L[a]? = some i := by
  have := congrArg List.head? hd; rw [List.head?_drop] at this
  simpa using this
 have hl' : L.drop (a + 1) = l' := by
  have := congrArg List.tail hd; rw [List.tail_drop] at this
  simpa using this
 have hm : i ∈ L := List.mem_of_getElem? hla; have halt : a < L.length := (List.getElem?_eq_some_iff.1 hla).1; have hai : L[a] = i := (List.getElem?_eq_some_iff.1 hla).2; obtain ⟨la, lc, rfl, hic⟩ := h.ins; obtain ⟨ib, io, ea, z0, z1, z2, z3⟩ := hic a halt; subst ea; rw [hai] at z0 z1 z2 z3; have HP := Lib.hid (And.intro hla (And.intro hl' (And.intro hm (And.intro hq hjq)))); have HW := Lib.hid h; have HB := Lib.hid (And.intro b1 (And.intro b2 b3)); have HZ := Lib.hid (And.intro z0 (And.intro z1 (And.intro z2 z3))); have HSL := Lib.hid (And.intro hs hl); have HK := Lib.hid hk; clear hic hla hl' hm hq hjq hd hb b1 b2 b3 hai h z0 z1 z2 z3 hs hl hk
 go_enter Try.func28, Try.ntmps28
 go_upto_region 1 with fail
 refine wp_region_rest (by kernel_rfl) ?_; have hd := (Below.refl w.heap.size w).drew; obtain ⟨h2, s2, -⟩ := HW.out.below hd; have HW0 := Lib.hid h2; have HS0 := Lib.hid s2; have hib := (HW.out.iF ib rfl).1.2; obtain ⟨c0, c1, c2, c3, c11⟩ := row12 h2.row; have hrl := h2.rlt; have z0 := (hd.cell (p := ⟨ib, io + a * 4, none⟩) hib).trans HZ.out.1; have z1 := (hd.cell (p := ⟨ib, io + a * 4 + 1, none⟩) hib).trans HZ.out.2.1; have z2 := (hd.cell (p := ⟨ib, io + a * 4 + 2, none⟩) hib).trans HZ.out.2.2.1; have z3 := (hd.cell (p := ⟨ib, io + a * 4 + 3, none⟩) hib).trans HZ.out.2.2.2; have hibl := Nat.lt_of_lt_of_le hib hd.size; clear h2 s2 hd hib HZ HW; generalize w.drew = W0 at *; refine rest_chainP (fun u => Below W0.heap.size W0 u) 0 11 (.soft 0 (.soft 1 (.soft 2 (.soft 3 (.soft 4 (.soft 5 (.soft 6 (.soft 7 (.soft 8 (.soft 9 (.one 10 .nil))))))))))) (.soft _ (.soft _ (.soft _ (.soft _ (.soft _ (.soft _ (.soft _ (.soft _ (.soft _ (.soft _ (.one _ .nil))))))))))) ⟨rfl, ⟨rfl, ⟨rfl, ⟨rfl, ⟨rfl, ⟨rfl, ⟨rfl, ⟨rfl, ⟨rfl, ⟨rfl, ⟨rfl, trivial⟩⟩⟩⟩⟩⟩⟩⟩⟩⟩⟩ (by kernel_rfl) (by kernel_rfl) (by kernel_rfl) (by kernel_rfl) (.inr (by kernel_rfl)) (Below.refl _ _) ?_; refine cS (a1 := ?ma1) ?mh1 ?mr1
 case mh1 =>
  intro u hu E hE; go_wp2; rfl
 refine chainP_nck _ _ rfl rfl rfl ?_; simp only [Act.put, zA, zB, zC, zD, zE, zF, zG, Nat.reduceAdd]; refine cS (a1 := ?ma2) ?mh2 ?mr2
 case mh2 =>
  intro u hu E hE; go_wp2; rfl
 refine cS (a1 := ?ma3) ?mh3 ?mr3
 case mh3 =>
  intro u hu E hE; have e1 := (hu.cell (p := ⟨rb, 1, none⟩) hrl).trans c1; go_wp2; rfl
 refine cS (a1 := ?ma4) ?mh4 ?mr4
 case mh4 =>
  intro u hu E hE; go_wp2; rfl
 refine chainP_nck _ _ rfl rfl rfl ?_; simp only [Act.put, zA, zB, zC, zD, zE, zF, zG, Nat.reduceAdd]; refine cS (a1 := ?ma5) ?mh5 ?mr5
 case mh5 =>
  intro u hu E hE; go_wp2; rfl
 refine cS (a1 := ?ma6) ?mh6 ?mr6
 case mh6 =>
  intro u hu E hE; have e1 := (hu.cell (p := ⟨rb, 2, none⟩) hrl).trans c2; go_wp2; rfl
 refine cS (a1 := ?ma7) ?mh7 ?mr7
 case mh7 =>
  intro u hu E hE; have ha0 : (0 : Int) ≤ (a : Int) := by omega
  have ha1 : (a : Int) < (L.length : Int) := by omega
  go_wp2; rfl
 refine cS (a1 := ?ma8) ?mh8 ?mr8
 case mh8 =>
  intro u hu E hE; have e0 := (hu.cell (p := ⟨ib, io + a * 4, none⟩) hibl).trans z0; have e1 := (hu.cell (p := ⟨ib, io + a * 4 + 1, none⟩) hibl).trans z1; have e2 := (hu.cell (p := ⟨ib, io + a * 4 + 2, none⟩) hibl).trans z2; have e3 := (hu.cell (p := ⟨ib, io + a * 4 + 3, none⟩) hibl).trans z3; go_wp2; rfl
 refine chainP_one ?_; intro E hE; go_wp2; have hal := (Below.refl W0.heap.size W0).alloc (Nat.le_refl _) (.cells #[.int .i64 0, .int .i64 0, .int .i64 0, .string ⟨#[]⟩] 71 (0, 0)); have hr4 := heap_alloc_new W0 (.cells #[.int .i64 0, .int .i64 0, .int .i64 0, .string ⟨#[]⟩] 71 (0, 0)); obtain ⟨h3, s3, f3⟩ := HW0.out.below hal; have hgo := f3 W0.heap.size (Nat.le_refl _) (by simp); have hw0 := Nat.le_trans HW0.out.law.bel.size (Nat.le_refl W0.heap.size)
 have hnb : slBlk (.slice (some ⟨ib, io, none⟩) L.length lc) ≠ some W0.heap.size := fun e => by
  have e2 : ib = W0.heap.size := by simpa [slBlk] using e
  omega
 refine ⟨hal, ?_⟩; have h5 := h3.setOut hgo hw0 hnb #[.int .i64 i.op, .int .i64 i.a, .int .i64 i.n, .string i.s]; have s5 := (HS0.out.trans s3).setRow HS0.out.size #[.int .i64 i.op, .int .i64 i.a, .int .i64 i.n, .string i.s]; have r5 := setRow_heap _ W0.heap.size _ (#[.int .i64 i.op, .int .i64 i.a, .int .i64 i.n, .string i.s] : Array Value) _ _ hr4; have H5 := Lib.hid h5; have HS5 := Lib.hid s5; have HR5 := Lib.hid r5; have HG5 := Lib.hid (show EOut rb qb D ((W0.alloc (.cells #[.int .i64 0, .int .i64 0, .int .i64 0, .string ⟨#[]⟩] 71 (0, 0))).setRow W0.heap.size #[.int .i64 i.op, .int .i64 i.a, .int .i64 i.n, .string i.s]) W0.heap.size from ⟨hgo.1, hgo.2.1, hgo.2.2.1, by simp⟩); have HR4 := Lib.hid hr4; clear hal hr4 h3 s3 f3 hgo hw0 hnb h5 s5 r5 c0 c1 c2 c3 c11 z0 z1 z2 z3 HW0 HS0 hrl hibl; refine chainP_nil ?_; refine rest_lineL 11 12 [_] rfl (by kernel_rfl) (by decide) (by decide) (by kernel_rfl) ?_
 go_wp2_with (refine wpList_store_row rfl 71 (.tmp 4) (.tmp 14) rfl W0.heap.size #[.int .i64 i.op, .int .i64 i.a, .int .i64 i.n, .string i.s] rfl rfl _ _ HR4.out size_instr rfl (by simp [Value.oneCell']) ?_)
 refine then_rest (rest_end (by decide) ?_); generalize (W0.alloc (.cells #[.int .i64 0, .int .i64 0, .int .i64 0, .string ⟨#[]⟩] 71 (0, 0))).setRow W0.heap.size #[.int .i64 i.op, .int .i64 i.a, .int .i64 i.n, .string i.s] = W5 at *; generalize W0.heap.size = g at *; clear HR4; obtain ⟨c0, c1, c2, c3, c11⟩ := row12 H5.out.row; have hfz := (H5.out.setAtO (a + 1)).2; obtain ⟨h6, s6⟩ := H5.out.setAt (a + 1); have r6 := ((H5.out.setAtO (a + 1)).1 g HG5.out.2.1).trans HR5.out; have g6 := (s6.blk g HG5.out).1; rw [show ((a + 1 : Nat) : Int) = (a : Int) + 1 by omega] at h6 s6 r6 g6; have H6 := Lib.hid h6; have HS6 := Lib.hid (HS5.out.trans s6); have HR6 := Lib.hid r6; have HG6 := Lib.hid g6; clear h6 s6 r6 g6 HS5 HR5 HG5 H5
 go_upto_region 3 with fail
 clear c0 c1 c2 c3 c11 hfz; generalize W5.setCell ⟨rb, 2, none⟩ (.int .i64 ((a : Int) + 1)) = W6 at *; refine wp_region_rest (by kernel_rfl) ?_; have hd := (Below.refl W6.heap.size W6).drew; obtain ⟨h7, s7, -⟩ := H6.out.below hd; have r7 := row_on HR6.out hd; have H7 := Lib.hid h7; have HS7 := Lib.hid (HS6.out.trans s7); have hrow := h7.row; clear hd s7 h7 H6 HS6 HR6 HG6; generalize W6.drew = W7 at *; obtain ⟨x0, x1, x2, x3⟩ := row4 r7; clear r7; have hops : i.op = 1 ∨ i.op = 2 ∨ i.op = 3 ∨ i.op = 4 ∨ i.op = 5 ∨ i.op = 6 := by have := HB.out.1; have := HB.out.2.1; omega
 rcases hops with ho | ho | ho | ho | ho | ho
 ·have HO := Lib.hid ho
  rw [ho] at x0; have cf := cell_of_row _ _ 5 _ _ _ hrow
  have HX := Lib.hid (show patX L (N + 1) a S sl = ⟨(freshA S).1, (freshA S).2, a + 1, freshW S, sl⟩ by
   unfold patX; rw [HP.out.1]; simp only [ho, HO.out]; rfl)
  clear ho hrow; refine rest_chainP (fun u => u = W7) 0 9 (.soft 0 (.soft 1 (.soft 2 (.soft 3 (.soft 4 (.soft 5 (.soft 6 (.soft 7 (.soft 8 .nil))))))))) (.soft _ (.soft _ (.soft _ (.soft _ (.soft _ (.soft _ (.soft _ (.soft _ (.soft _ .nil))))))))) ⟨rfl, ⟨rfl, ⟨rfl, ⟨rfl, ⟨rfl, ⟨rfl, ⟨rfl, ⟨rfl, ⟨rfl, trivial⟩⟩⟩⟩⟩⟩⟩⟩⟩ (by kernel_rfl) (by kernel_rfl) (by kernel_rfl) (by kernel_rfl) (.inr (by kernel_rfl)) rfl ?_; refine cS (a1 := ?ma9) ?mh9 ?mr9
  case mh9 =>
   intro u hu E hE; subst hu; go_wp2; rfl
  refine cS (a1 := ?ma10) ?mh10 ?mr10
  case mh10 =>
   intro u hu E hE; subst hu; go_wp2; rfl
  refine cS (a1 := ?ma11) ?mh11 ?mr11
  case mh11 =>
   intro u hu E hE; subst hu; go_wp2; rfl
  refine chainP_nck _ _ rfl rfl rfl ?_; simp only [Act.put, zA, zB, zC, zD, zE, zF, zG, Nat.reduceAdd]; refine cS (a1 := ?ma12) ?mh12 ?mr12
  case mh12 =>
   intro u hu E hE; subst hu; go_wp2; rfl
  refine cS (a1 := ?ma13) ?mh13 ?mr13
  case mh13 =>
   intro u hu E hE; subst hu; go_wp2; rfl
  refine cS (a1 := ?ma14) ?mh14 ?mr14
  case mh14 =>
   intro u hu E hE; subst hu; go_wp2; rfl
  refine cS (a1 := ?ma15) ?mh15 ?mr15
  case mh15 =>
   intro u hu E hE; subst hu; go_wp2; rfl
  refine cS (a1 := ?ma16) ?mh16 ?mr16
  case mh16 =>
   intro u hu E hE; subst hu; go_wp2; rfl
  refine chainP_nil ?_; clear x0 x1 x2 x3 cf; have hv : i.val = .agg #[.int .i64 1, .int .i64 i.a, .int .i64 i.n, .string i.s] := by show Value.agg #[.int .i64 i.op, .int .i64 i.a, .int .i64 i.n, .string i.s] = _; rw [HO.out]
  have hc := ex_any H7.out hI i; obtain ⟨R, hR⟩ : ∃ R : PtR, R = ⟨(freshA S).1, (freshA S).2, a + 1, freshW S, sl⟩ := ⟨_, rfl⟩; rw [hv, ← hR] at hc; have HCC := Lib.hid hc; have HXR := Lib.hid (show patX L (N + 1) a S sl = R by rw [hR]; exact HX.out); clear hv hc hR HX; refine rest_chainP (fun _ => True) 9 12 (.one 9 (.soft 10 (.soft 11 .nil))) (.one _ (.soft _ (.soft _ .nil))) ⟨rfl, ⟨rfl, ⟨rfl, trivial⟩⟩⟩ (by kernel_rfl) (by kernel_rfl) (by kernel_rfl) (by kernel_rfl) (.inr (by kernel_rfl)) trivial ?_; refine chainP_one ?_; intro E hE
  go_wp2_with (refine (HCC.out).mono ?_; rintro e3 w3 ⟨rfl, D3, h3, s3⟩)
  have H3 := Lib.hid h3; have HS3 := Lib.hid (HS7.out.trans s3); clear h3 s3 H7 HS7; refine ⟨trivial, ?_⟩; refine cV (.int .i64 R.cell) ?_ ?_
  ·simp only [Act.put, zA, zB, zC, zD, zE, zF, zG, Nat.reduceAdd]
   intro u hu E hE; go_wp2; exact hE
  simp only [Act.put, zA, zB, zC, zD, zE, zF, zG, Nat.reduceAdd]; refine cV (.int .i64 R.err) ?_ ?_
  ·simp only [Act.put, zA, zB, zC, zD, zE, zF, zG, Nat.reduceAdd]
   intro u hu E hE; go_wp2; exact hE
  simp only [Act.put, zA, zB, zC, zD, zE, zF, zG, Nat.reduceAdd]; refine chainP_nil ?_; refine rest_lineL 12 14 [_, _] rfl (by kernel_rfl) (by decide) (by decide) (by kernel_rfl) ?_; go_wp2; refine then_rest (rest_end (by decide) ?_); go_wp2; go_ret2; rw [HXR.out]; exact ⟨rfl, D3, H3.out, HS3.out⟩
 ·have HO := Lib.hid ho
  rw [ho] at x0; have cf := cell_of_row _ _ 6 _ _ _ hrow
  have HX := Lib.hid (show patX L (N + 1) a S sl = slotX i (a + 1) S sl by
   unfold patX; rw [HP.out.1]; simp only [ho, HO.out]; rfl)
  obtain ⟨m, hm⟩ : ∃ m : Nat, i.a = (m : Int) := ⟨i.a.toNat, by have := (hsl i HP.out.2.2.1 (by omega)).1; omega⟩; have hml : m < sl.length := by have := (hsl i HP.out.2.2.1 (by omega)).2; have := HSL.out.2; omega
  have hsv : ∀ x ∈ sl, x = -1 ∨ 0 ≤ x := fun x hx => (HSL.out.1 x hx).imp id fun h => h.1
  have hsz : sl.length ≤ 1000000 := by rw [HSL.out.2]; exact hsn
  have HM := Lib.hid (And.intro hm (And.intro hml (And.intro hsv hsz))); clear hm hml hsv hsz; clear ho hrow; refine rest_chainP (fun u => u = W7) 0 9 (.soft 0 (.soft 1 (.soft 2 (.soft 3 (.soft 4 (.soft 5 (.soft 6 (.soft 7 (.soft 8 .nil))))))))) (.soft _ (.soft _ (.soft _ (.soft _ (.soft _ (.soft _ (.soft _ (.soft _ (.soft _ .nil))))))))) ⟨rfl, ⟨rfl, ⟨rfl, ⟨rfl, ⟨rfl, ⟨rfl, ⟨rfl, ⟨rfl, ⟨rfl, trivial⟩⟩⟩⟩⟩⟩⟩⟩⟩ (by kernel_rfl) (by kernel_rfl) (by kernel_rfl) (by kernel_rfl) (.inr (by kernel_rfl)) rfl ?_; refine cS (a1 := ?ma17) ?mh17 ?mr17
  case mh17 =>
   intro u hu E hE; subst hu; go_wp2; rfl
  refine cS (a1 := ?ma18) ?mh18 ?mr18
  case mh18 =>
   intro u hu E hE; subst hu; go_wp2; rfl
  refine cS (a1 := ?ma19) ?mh19 ?mr19
  case mh19 =>
   intro u hu E hE; subst hu; go_wp2; rfl
  refine chainP_nck _ _ rfl rfl rfl ?_; simp only [Act.put, zA, zB, zC, zD, zE, zF, zG, Nat.reduceAdd]; refine cS (a1 := ?ma20) ?mh20 ?mr20
  case mh20 =>
   intro u hu E hE; subst hu; go_wp2; rfl
  refine cS (a1 := ?ma21) ?mh21 ?mr21
  case mh21 =>
   intro u hu E hE; subst hu; go_wp2; rfl
  refine cS (a1 := ?ma22) ?mh22 ?mr22
  case mh22 =>
   intro u hu E hE; subst hu; go_wp2; rfl
  refine cS (a1 := ?ma23) ?mh23 ?mr23
  case mh23 =>
   intro u hu E hE; subst hu; go_wp2; rfl
  refine cS (a1 := ?ma24) ?mh24 ?mr24
  case mh24 =>
   intro u hu E hE; subst hu; go_wp2; rfl
  refine chainP_nil ?_; clear x0 x1 x2 x3 cf; have hv : i.val = .agg #[.int .i64 2, .int .i64 i.a, .int .i64 i.n, .string i.s] := by show Value.agg #[.int .i64 i.op, .int .i64 i.a, .int .i64 i.n, .string i.s] = _; rw [HO.out]
  have hc := ex_slot H7.out hI i m HM.out.1 HM.out.2.1 HM.out.2.2.1 HM.out.2.2.2; obtain ⟨R, hR⟩ : ∃ R : PtR, R = slotX i (a + 1) S sl := ⟨_, rfl⟩; rw [hv, ← hR] at hc; have HCC := Lib.hid hc; have HXR := Lib.hid (show patX L (N + 1) a S sl = R by rw [hR]; exact HX.out); clear hv hc hR HX; refine rest_chainP (fun _ => True) 9 12 (.one 9 (.soft 10 (.soft 11 .nil))) (.one _ (.soft _ (.soft _ .nil))) ⟨rfl, ⟨rfl, ⟨rfl, trivial⟩⟩⟩ (by kernel_rfl) (by kernel_rfl) (by kernel_rfl) (by kernel_rfl) (.inr (by kernel_rfl)) trivial ?_; refine chainP_one ?_; intro E hE
  go_wp2_with (refine (HCC.out).mono ?_; rintro e3 w3 ⟨rfl, D3, h3, s3⟩)
  have H3 := Lib.hid h3; have HS3 := Lib.hid (HS7.out.trans s3); clear h3 s3 H7 HS7; refine ⟨trivial, ?_⟩; refine cV (.int .i64 R.cell) ?_ ?_
  ·simp only [Act.put, zA, zB, zC, zD, zE, zF, zG, Nat.reduceAdd]
   intro u hu E hE; go_wp2; exact hE
  simp only [Act.put, zA, zB, zC, zD, zE, zF, zG, Nat.reduceAdd]; refine cV (.int .i64 R.err) ?_ ?_
  ·simp only [Act.put, zA, zB, zC, zD, zE, zF, zG, Nat.reduceAdd]
   intro u hu E hE; go_wp2; exact hE
  simp only [Act.put, zA, zB, zC, zD, zE, zF, zG, Nat.reduceAdd]; refine chainP_nil ?_; refine rest_lineL 12 14 [_, _] rfl (by kernel_rfl) (by decide) (by decide) (by kernel_rfl) ?_; go_wp2; refine then_rest (rest_end (by decide) ?_); go_wp2; go_ret2; rw [HXR.out]; exact ⟨rfl, D3, H3.out, HS3.out⟩
 ·have HO := Lib.hid ho
  rw [ho] at x0; have cf := cell_of_row _ _ 7 _ _ _ hrow
  have HX := Lib.hid (show patX L (N + 1) a S sl = slotX i (a + 1) S sl by
   unfold patX; rw [HP.out.1]; simp only [ho, HO.out]; rfl)
  obtain ⟨m, hm⟩ : ∃ m : Nat, i.a = (m : Int) := ⟨i.a.toNat, by have := (hsl i HP.out.2.2.1 (by omega)).1; omega⟩; have hml : m < sl.length := by have := (hsl i HP.out.2.2.1 (by omega)).2; have := HSL.out.2; omega
  have hsv : ∀ x ∈ sl, x = -1 ∨ 0 ≤ x := fun x hx => (HSL.out.1 x hx).imp id fun h => h.1
  have hsz : sl.length ≤ 1000000 := by rw [HSL.out.2]; exact hsn
  have HM := Lib.hid (And.intro hm (And.intro hml (And.intro hsv hsz))); clear hm hml hsv hsz; clear ho hrow; refine rest_chainP (fun u => u = W7) 0 9 (.soft 0 (.soft 1 (.soft 2 (.soft 3 (.soft 4 (.soft 5 (.soft 6 (.soft 7 (.soft 8 .nil))))))))) (.soft _ (.soft _ (.soft _ (.soft _ (.soft _ (.soft _ (.soft _ (.soft _ (.soft _ .nil))))))))) ⟨rfl, ⟨rfl, ⟨rfl, ⟨rfl, ⟨rfl, ⟨rfl, ⟨rfl, ⟨rfl, ⟨rfl, trivial⟩⟩⟩⟩⟩⟩⟩⟩⟩ (by kernel_rfl) (by kernel_rfl) (by kernel_rfl) (by kernel_rfl) (.inr (by kernel_rfl)) rfl ?_; refine cS (a1 := ?ma25) ?mh25 ?mr25
  case mh25 =>
   intro u hu E hE; subst hu; go_wp2; rfl
  refine cS (a1 := ?ma26) ?mh26 ?mr26
  case mh26 =>
   intro u hu E hE; subst hu; go_wp2; rfl
  refine cS (a1 := ?ma27) ?mh27 ?mr27
  case mh27 =>
   intro u hu E hE; subst hu; go_wp2; rfl
  refine chainP_nck _ _ rfl rfl rfl ?_; simp only [Act.put, zA, zB, zC, zD, zE, zF, zG, Nat.reduceAdd]; refine cS (a1 := ?ma28) ?mh28 ?mr28
  case mh28 =>
   intro u hu E hE; subst hu; go_wp2; rfl
  refine cS (a1 := ?ma29) ?mh29 ?mr29
  case mh29 =>
   intro u hu E hE; subst hu; go_wp2; rfl
  refine cS (a1 := ?ma30) ?mh30 ?mr30
  case mh30 =>
   intro u hu E hE; subst hu; go_wp2; rfl
  refine cS (a1 := ?ma31) ?mh31 ?mr31
  case mh31 =>
   intro u hu E hE; subst hu; go_wp2; rfl
  refine cS (a1 := ?ma32) ?mh32 ?mr32
  case mh32 =>
   intro u hu E hE; subst hu; go_wp2; rfl
  refine chainP_nil ?_; clear x0 x1 x2 x3 cf; have hv : i.val = .agg #[.int .i64 3, .int .i64 i.a, .int .i64 i.n, .string i.s] := by show Value.agg #[.int .i64 i.op, .int .i64 i.a, .int .i64 i.n, .string i.s] = _; rw [HO.out]
  have hc := ex_slot H7.out hI i m HM.out.1 HM.out.2.1 HM.out.2.2.1 HM.out.2.2.2; obtain ⟨R, hR⟩ : ∃ R : PtR, R = slotX i (a + 1) S sl := ⟨_, rfl⟩; rw [hv, ← hR] at hc; have HCC := Lib.hid hc; have HXR := Lib.hid (show patX L (N + 1) a S sl = R by rw [hR]; exact HX.out); clear hv hc hR HX; refine rest_chainP (fun _ => True) 9 12 (.one 9 (.soft 10 (.soft 11 .nil))) (.one _ (.soft _ (.soft _ .nil))) ⟨rfl, ⟨rfl, ⟨rfl, trivial⟩⟩⟩ (by kernel_rfl) (by kernel_rfl) (by kernel_rfl) (by kernel_rfl) (.inr (by kernel_rfl)) trivial ?_; refine chainP_one ?_; intro E hE
  go_wp2_with (refine (HCC.out).mono ?_; rintro e3 w3 ⟨rfl, D3, h3, s3⟩)
  have H3 := Lib.hid h3; have HS3 := Lib.hid (HS7.out.trans s3); clear h3 s3 H7 HS7; refine ⟨trivial, ?_⟩; refine cV (.int .i64 R.cell) ?_ ?_
  ·simp only [Act.put, zA, zB, zC, zD, zE, zF, zG, Nat.reduceAdd]
   intro u hu E hE; go_wp2; exact hE
  simp only [Act.put, zA, zB, zC, zD, zE, zF, zG, Nat.reduceAdd]; refine cV (.int .i64 R.err) ?_ ?_
  ·simp only [Act.put, zA, zB, zC, zD, zE, zF, zG, Nat.reduceAdd]
   intro u hu E hE; go_wp2; exact hE
  simp only [Act.put, zA, zB, zC, zD, zE, zF, zG, Nat.reduceAdd]; refine chainP_nil ?_; refine rest_lineL 12 14 [_, _] rfl (by kernel_rfl) (by decide) (by decide) (by kernel_rfl) ?_; go_wp2; refine then_rest (rest_end (by decide) ?_); go_wp2; go_ret2; rw [HXR.out]; exact ⟨rfl, D3, H3.out, HS3.out⟩
 ·have HO := Lib.hid ho
  rw [ho] at x0; have cf := cell_of_row _ _ 8 _ _ _ hrow
  have HX := Lib.hid (show patX L (N + 1) a S sl = putXE (a + 1) S sl [] (intT i.n) by
   unfold patX; rw [HP.out.1]; simp only [ho, HO.out]; rfl)
  clear ho hrow; refine rest_chainP (fun u => u = W7) 0 9 (.soft 0 (.soft 1 (.soft 2 (.soft 3 (.soft 4 (.soft 5 (.soft 6 (.soft 7 (.soft 8 .nil))))))))) (.soft _ (.soft _ (.soft _ (.soft _ (.soft _ (.soft _ (.soft _ (.soft _ (.soft _ .nil))))))))) ⟨rfl, ⟨rfl, ⟨rfl, ⟨rfl, ⟨rfl, ⟨rfl, ⟨rfl, ⟨rfl, ⟨rfl, trivial⟩⟩⟩⟩⟩⟩⟩⟩⟩ (by kernel_rfl) (by kernel_rfl) (by kernel_rfl) (by kernel_rfl) (.inr (by kernel_rfl)) rfl ?_; refine cS (a1 := ?ma33) ?mh33 ?mr33
  case mh33 =>
   intro u hu E hE; subst hu; go_wp2; rfl
  refine cS (a1 := ?ma34) ?mh34 ?mr34
  case mh34 =>
   intro u hu E hE; subst hu; go_wp2; rfl
  refine cS (a1 := ?ma35) ?mh35 ?mr35
  case mh35 =>
   intro u hu E hE; subst hu; go_wp2; rfl
  refine chainP_nck _ _ rfl rfl rfl ?_; simp only [Act.put, zA, zB, zC, zD, zE, zF, zG, Nat.reduceAdd]; refine cS (a1 := ?ma36) ?mh36 ?mr36
  case mh36 =>
   intro u hu E hE; subst hu; go_wp2; rfl
  refine cS (a1 := ?ma37) ?mh37 ?mr37
  case mh37 =>
   intro u hu E hE; subst hu; go_wp2; rfl
  refine cS (a1 := ?ma38) ?mh38 ?mr38
  case mh38 =>
   intro u hu E hE; subst hu; go_wp2; rfl
  refine cS (a1 := ?ma39) ?mh39 ?mr39
  case mh39 =>
   intro u hu E hE; subst hu; go_wp2; rfl
  refine cS (a1 := ?ma40) ?mh40 ?mr40
  case mh40 =>
   intro u hu E hE; subst hu; go_wp2; rfl
  refine chainP_nil ?_; clear x0 x1 x2 x3 cf; have hv : i.val = .agg #[.int .i64 4, .int .i64 i.a, .int .i64 i.n, .string i.s] := by show Value.agg #[.int .i64 i.op, .int .i64 i.a, .int .i64 i.n, .string i.s] = _; rw [HO.out]
  have hc := ex_num H7.out hI i; obtain ⟨R, hR⟩ : ∃ R : PtR, R = putXE (a + 1) S sl [] (intT i.n) := ⟨_, rfl⟩; rw [hv, ← hR] at hc; have HCC := Lib.hid hc; have HXR := Lib.hid (show patX L (N + 1) a S sl = R by rw [hR]; exact HX.out); clear hv hc hR HX; refine rest_chainP (fun _ => True) 9 12 (.one 9 (.soft 10 (.soft 11 .nil))) (.one _ (.soft _ (.soft _ .nil))) ⟨rfl, ⟨rfl, ⟨rfl, trivial⟩⟩⟩ (by kernel_rfl) (by kernel_rfl) (by kernel_rfl) (by kernel_rfl) (.inr (by kernel_rfl)) trivial ?_; refine chainP_one ?_; intro E hE
  go_wp2_with (refine (HCC.out).mono ?_; rintro e3 w3 ⟨rfl, D3, h3, s3⟩)
  have H3 := Lib.hid h3; have HS3 := Lib.hid (HS7.out.trans s3); clear h3 s3 H7 HS7; refine ⟨trivial, ?_⟩; refine cV (.int .i64 R.cell) ?_ ?_
  ·simp only [Act.put, zA, zB, zC, zD, zE, zF, zG, Nat.reduceAdd]
   intro u hu E hE; go_wp2; exact hE
  simp only [Act.put, zA, zB, zC, zD, zE, zF, zG, Nat.reduceAdd]; refine cV (.int .i64 R.err) ?_ ?_
  ·simp only [Act.put, zA, zB, zC, zD, zE, zF, zG, Nat.reduceAdd]
   intro u hu E hE; go_wp2; exact hE
  simp only [Act.put, zA, zB, zC, zD, zE, zF, zG, Nat.reduceAdd]; refine chainP_nil ?_; refine rest_lineL 12 14 [_, _] rfl (by kernel_rfl) (by decide) (by decide) (by kernel_rfl) ?_; go_wp2; refine then_rest (rest_end (by decide) ?_); go_wp2; go_ret2; rw [HXR.out]; exact ⟨rfl, D3, H3.out, HS3.out⟩
 ·have HO := Lib.hid ho
  rw [ho] at x0; have cf := cell_of_row _ _ 9 _ _ _ hrow
  have HX := Lib.hid (show patX L (N + 1) a S sl = putXE (a + 1) S sl [] (atomT i.s) by
   unfold patX; rw [HP.out.1]; simp only [ho, HO.out]; rfl)
  clear ho hrow; refine rest_chainP (fun u => u = W7) 0 9 (.soft 0 (.soft 1 (.soft 2 (.soft 3 (.soft 4 (.soft 5 (.soft 6 (.soft 7 (.soft 8 .nil))))))))) (.soft _ (.soft _ (.soft _ (.soft _ (.soft _ (.soft _ (.soft _ (.soft _ (.soft _ .nil))))))))) ⟨rfl, ⟨rfl, ⟨rfl, ⟨rfl, ⟨rfl, ⟨rfl, ⟨rfl, ⟨rfl, ⟨rfl, trivial⟩⟩⟩⟩⟩⟩⟩⟩⟩ (by kernel_rfl) (by kernel_rfl) (by kernel_rfl) (by kernel_rfl) (.inr (by kernel_rfl)) rfl ?_; refine cS (a1 := ?ma41) ?mh41 ?mr41
  case mh41 =>
   intro u hu E hE; subst hu; go_wp2; rfl
  refine cS (a1 := ?ma42) ?mh42 ?mr42
  case mh42 =>
   intro u hu E hE; subst hu; go_wp2; rfl
  refine cS (a1 := ?ma43) ?mh43 ?mr43
  case mh43 =>
   intro u hu E hE; subst hu; go_wp2; rfl
  refine chainP_nck _ _ rfl rfl rfl ?_; simp only [Act.put, zA, zB, zC, zD, zE, zF, zG, Nat.reduceAdd]; refine cS (a1 := ?ma44) ?mh44 ?mr44
  case mh44 =>
   intro u hu E hE; subst hu; go_wp2; rfl
  refine cS (a1 := ?ma45) ?mh45 ?mr45
  case mh45 =>
   intro u hu E hE; subst hu; go_wp2; rfl
  refine cS (a1 := ?ma46) ?mh46 ?mr46
  case mh46 =>
   intro u hu E hE; subst hu; go_wp2; rfl
  refine cS (a1 := ?ma47) ?mh47 ?mr47
  case mh47 =>
   intro u hu E hE; subst hu; go_wp2; rfl
  refine cS (a1 := ?ma48) ?mh48 ?mr48
  case mh48 =>
   intro u hu E hE; subst hu; go_wp2; rfl
  refine chainP_nil ?_; clear x0 x1 x2 x3 cf; have hv : i.val = .agg #[.int .i64 5, .int .i64 i.a, .int .i64 i.n, .string i.s] := by show Value.agg #[.int .i64 i.op, .int .i64 i.a, .int .i64 i.n, .string i.s] = _; rw [HO.out]
  have hc := ex_name H7.out hI i; obtain ⟨R, hR⟩ : ∃ R : PtR, R = putXE (a + 1) S sl [] (atomT i.s) := ⟨_, rfl⟩; rw [hv, ← hR] at hc; have HCC := Lib.hid hc; have HXR := Lib.hid (show patX L (N + 1) a S sl = R by rw [hR]; exact HX.out); clear hv hc hR HX; refine rest_chainP (fun _ => True) 9 12 (.one 9 (.soft 10 (.soft 11 .nil))) (.one _ (.soft _ (.soft _ .nil))) ⟨rfl, ⟨rfl, ⟨rfl, trivial⟩⟩⟩ (by kernel_rfl) (by kernel_rfl) (by kernel_rfl) (by kernel_rfl) (.inr (by kernel_rfl)) trivial ?_; refine chainP_one ?_; intro E hE
  go_wp2_with (refine (HCC.out).mono ?_; rintro e3 w3 ⟨rfl, D3, h3, s3⟩)
  have H3 := Lib.hid h3; have HS3 := Lib.hid (HS7.out.trans s3); clear h3 s3 H7 HS7; refine ⟨trivial, ?_⟩; refine cV (.int .i64 R.cell) ?_ ?_
  ·simp only [Act.put, zA, zB, zC, zD, zE, zF, zG, Nat.reduceAdd]
   intro u hu E hE; go_wp2; exact hE
  simp only [Act.put, zA, zB, zC, zD, zE, zF, zG, Nat.reduceAdd]; refine cV (.int .i64 R.err) ?_ ?_
  ·simp only [Act.put, zA, zB, zC, zD, zE, zF, zG, Nat.reduceAdd]
   intro u hu E hE; go_wp2; exact hE
  simp only [Act.put, zA, zB, zC, zD, zE, zF, zG, Nat.reduceAdd]; refine chainP_nil ?_; refine rest_lineL 12 14 [_, _] rfl (by kernel_rfl) (by decide) (by decide) (by kernel_rfl) ?_; go_wp2; refine then_rest (rest_end (by decide) ?_); go_wp2; go_ret2; rw [HXR.out]; exact ⟨rfl, D3, H3.out, HS3.out⟩
 ·have HO := Lib.hid ho
  rw [ho] at x0; have cf := cell_of_row _ _ 10 _ _ _ hrow
  have HX := Lib.hid (show patX L (N + 1) a S sl = compX i (patsX (patX L N) i.a.toNat (a + 1) S sl) by
   unfold patX; rw [HP.out.1]; simp only [ho, HO.out]; rfl)
  have HQ := Lib.hid (show sk (L.drop (a + 1)) i.a.toNat = some q ∧ q ≤ N from ⟨by rw [HP.out.2.1]; have := HP.out.2.2.2.1; unfold Cod.Ins.ar at this; rw [if_pos HO.out] at this; exact this, by have := HP.out.2.2.2.2; omega⟩); clear ho hrow; refine rest_chainP (fun u => u = W7) 0 9 (.soft 0 (.soft 1 (.soft 2 (.soft 3 (.soft 4 (.soft 5 (.soft 6 (.soft 7 (.soft 8 .nil))))))))) (.soft _ (.soft _ (.soft _ (.soft _ (.soft _ (.soft _ (.soft _ (.soft _ (.soft _ .nil))))))))) ⟨rfl, ⟨rfl, ⟨rfl, ⟨rfl, ⟨rfl, ⟨rfl, ⟨rfl, ⟨rfl, ⟨rfl, trivial⟩⟩⟩⟩⟩⟩⟩⟩⟩ (by kernel_rfl) (by kernel_rfl) (by kernel_rfl) (by kernel_rfl) (.inr (by kernel_rfl)) rfl ?_; refine cS (a1 := ?ma49) ?mh49 ?mr49
  case mh49 =>
   intro u hu E hE; subst hu; go_wp2; rfl
  refine cS (a1 := ?ma50) ?mh50 ?mr50
  case mh50 =>
   intro u hu E hE; subst hu; go_wp2; rfl
  refine cS (a1 := ?ma51) ?mh51 ?mr51
  case mh51 =>
   intro u hu E hE; subst hu; go_wp2; rfl
  refine chainP_nck _ _ rfl rfl rfl ?_; simp only [Act.put, zA, zB, zC, zD, zE, zF, zG, Nat.reduceAdd]; refine cS (a1 := ?ma52) ?mh52 ?mr52
  case mh52 =>
   intro u hu E hE; subst hu; go_wp2; rfl
  refine cS (a1 := ?ma53) ?mh53 ?mr53
  case mh53 =>
   intro u hu E hE; subst hu; go_wp2; rfl
  refine cS (a1 := ?ma54) ?mh54 ?mr54
  case mh54 =>
   intro u hu E hE; subst hu; go_wp2; rfl
  refine cS (a1 := ?ma55) ?mh55 ?mr55
  case mh55 =>
   intro u hu E hE; subst hu; go_wp2; rfl
  refine cS (a1 := ?ma56) ?mh56 ?mr56
  case mh56 =>
   intro u hu E hE; subst hu; go_wp2; rfl
  refine chainP_nil ?_; clear x0 x1 x2 x3 cf; have hv : i.val = .agg #[.int .i64 6, .int .i64 i.a, .int .i64 i.n, .string i.s] := by show Value.agg #[.int .i64 i.op, .int .i64 i.a, .int .i64 i.n, .string i.s] = _; rw [HO.out]
  have hc := hC i (a + 1) q S sl D W7 H7.out hI HSL.out.1 HSL.out.2 HP.out.2.2.1 HO.out (HB.out.2.2 HO.out).1 (HB.out.2.2 HO.out).2 HQ.out.1 HQ.out.2; obtain ⟨R, hR⟩ : ∃ R : PtR, R = compX i (patsX (patX L N) i.a.toNat (a + 1) S sl) := ⟨_, rfl⟩; rw [hv, ← hR] at hc; have HCC := Lib.hid hc; have HXR := Lib.hid (show patX L (N + 1) a S sl = R by rw [hR]; exact HX.out); clear hv hc hR HX; refine rest_chainP (fun _ => True) 9 12 (.one 9 (.soft 10 (.soft 11 .nil))) (.one _ (.soft _ (.soft _ .nil))) ⟨rfl, ⟨rfl, ⟨rfl, trivial⟩⟩⟩ (by kernel_rfl) (by kernel_rfl) (by kernel_rfl) (by kernel_rfl) (.inr (by kernel_rfl)) trivial ?_; refine chainP_one ?_; intro E hE
  go_wp2_with (refine (HCC.out).mono ?_; rintro e3 w3 ⟨rfl, D3, h3, s3⟩)
  have H3 := Lib.hid h3; have HS3 := Lib.hid (HS7.out.trans s3); clear h3 s3 H7 HS7; refine ⟨trivial, ?_⟩; refine cV (.int .i64 R.cell) ?_ ?_
  ·simp only [Act.put, zA, zB, zC, zD, zE, zF, zG, Nat.reduceAdd]
   intro u hu E hE; go_wp2; exact hE
  simp only [Act.put, zA, zB, zC, zD, zE, zF, zG, Nat.reduceAdd]; refine cV (.int .i64 R.err) ?_ ?_
  ·simp only [Act.put, zA, zB, zC, zD, zE, zF, zG, Nat.reduceAdd]
   intro u hu E hE; go_wp2; exact hE
  simp only [Act.put, zA, zB, zC, zD, zE, zF, zG, Nat.reduceAdd]; refine chainP_nil ?_; refine rest_lineL 12 14 [_, _] rfl (by kernel_rfl) (by decide) (by decide) (by kernel_rfl) ?_; go_wp2; refine then_rest (rest_end (by decide) ?_); go_wp2; go_ret2; rw [HXR.out]; exact ⟨rfl, D3, H3.out, HS3.out⟩
end Go.Proofs.Ytcbijikalfodnaa.Tms
