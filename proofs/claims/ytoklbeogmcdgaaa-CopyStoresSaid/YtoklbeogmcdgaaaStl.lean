
/-
  Layer 8's store: what Put makes of its new cells' tops, and of the told variables: plain, and in memory.
  Layer 8's store: Put where it puts, walked over the program.
-/
import Derived.Test.YtoklbeogmcdgaaaSth
import Derived.Deep.Cut
import Derived.Deep.CutRange
import Derived.Deep.DeepCutAuto
namespace Go.Proofs.Ytoklbeogmcdgaaa.Tms
open Go Go.RowKit Go.Proofs.Ytoklbeogmcdgaaa.Reg Go.Proofs.Ytoklbeogmcdgaaa.Rws Go.Proofs.Ytoklbeogmcdgaaa.Maps
set_option linter.unusedVariables false
set_option linter.unusedSimpArgs false

def maxA (T : Int) (L : List Int) : Int := L.foldl max T
/-- the new cells' tops -/
def fixTop : Int → List SCell → List SCell
  | _, [] => []
  | T, c :: l => { c with top := maxA T c.args } :: fixTop (maxA T c.args) l
def runTop (T : Int) (l : List SCell) : Int := l.foldl (fun T c => maxA T c.args) T
theorem fixTop_len : ∀ (T : Int) (l : List SCell), (fixTop T l).length = l.length
  | _, [] => rfl
  | T, c :: l => by simp [fixTop, fixTop_len]
theorem fixTop_snoc : ∀ (T : Int) (l : List SCell) (c : SCell), fixTop T (l ++ [c]) = fixTop T l ++ [{ c with top := maxA (runTop T l) c.args }]
  | T, [], c => rfl
  | T, x :: l, c => by simp only [List.cons_append, fixTop, fixTop_snoc]; rfl
theorem runTop_snoc (T : Int) (l : List SCell) (c : SCell) : runTop T (l ++ [c]) = maxA (runTop T l) c.args := by simp [runTop]
theorem maxA_snoc (T : Int) (l : List Int) (x : Int) : maxA T (l ++ [x]) = max (maxA T l) x := by simp [maxA]
/-- so many of the new cells have their tops -/
def topS (S : Sto) (T : Int) (new : List SCell) (j : Nat) : Sto := ⟨S.room, S.cells ++ (fixTop T (new.take j) ++ new.drop j), S.bonds⟩
theorem topS_zero (S : Sto) (T : Int) (new : List SCell) : topS S T new 0 = plusS S new := by simp [topS, plusS, fixTop]
theorem topS_len (S : Sto) (T : Int) (new : List SCell) (j : Nat) (hj : j ≤ new.length) : (topS S T new j).cells.length = S.cells.length + new.length := by
  simp only [topS, List.length_append, fixTop_len, List.length_take, List.length_drop]; omega
theorem topS_at (S : Sto) (T : Int) (new : List SCell) (j : Nat) (hj : j < new.length) : (topS S T new j).cells[S.cells.length + j]? = some new[j] := by
  have h1 : (fixTop T (new.take j)).length = j := by rw [fixTop_len, List.length_take]; omega
  simp only [topS]
  rw [List.getElem?_append_right (by omega), Nat.add_sub_cancel_left, List.getElem?_append_right (by omega), h1, Nat.sub_self, List.getElem?_drop, Nat.add_zero, List.getElem?_eq_getElem hj]
/-- one cell's top is stored -/
def setTop (S : Sto) (v : Nat) (x : Int) : List SCell := match S.cells[v]? with
  | none => S.cells
  | some c => S.cells.set v { c with top := x }
theorem setTop_at {S : Sto} {v : Nat} {x : Int} (h : v < S.cells.length) : setTop S v x = S.cells.set v { S.cells[v] with top := x } := by
  unfold setTop
  rw [List.getElem?_eq_getElem h]
theorem topS_next (S : Sto) (T : Int) (new : List SCell) (j : Nat) (hj : j < new.length) : (⟨(topS S T new j).room, setTop (topS S T new j) (S.cells.length + j) (maxA (runTop T (new.take j)) new[j].args), (topS S T new j).bonds⟩ : Sto) = topS S T new (j + 1) := by
  have hl : S.cells.length + j < (topS S T new j).cells.length := by rw [topS_len _ _ _ _ (by omega)]; omega
  have hc : (topS S T new j).cells[S.cells.length + j]'hl = new[j] := by
    have := topS_at S T new j hj
    rw [List.getElem?_eq_getElem hl] at this
    exact Option.some.inj this
  have h1 : (fixTop T (new.take j)).length = j := by rw [fixTop_len, List.length_take]; omega
  rw [setTop_at hl, hc]
  show (⟨S.room, _, S.bonds⟩ : Sto) = ⟨S.room, _, S.bonds⟩
  congr 1
  show (S.cells ++ (fixTop T (new.take j) ++ new.drop j)).set _ _ = S.cells ++ (fixTop T (new.take (j + 1)) ++ new.drop (j + 1))
  rw [List.set_append_right _ _ (by omega), Nat.add_sub_cancel_left, List.set_append_right _ _ (by omega), h1, Nat.sub_self, List.take_succ_eq_append_getElem hj, fixTop_snoc, List.drop_eq_getElem_cons hj]
  simp only [List.set_cons_zero, List.append_assoc, List.cons_append, List.nil_append]
theorem topS_all (S : Sto) (T : Int) (new : List SCell) : topS S T new new.length = plusS S (fixTop T new) := by simp [topS, plusS]
theorem StoRow.setTop {w : World} {D : Nat → Prop} {p : Nat} {S : Sto} {bv : Value} {A : Nat → Prop} {g cap : Nat} (h : StoRow w D p S (.slice (some ⟨g, 0, none⟩) S.cells.length cap) bv A) (v : Nat) (hv : v < S.cells.length) (x : Int) :
    StoRow (w.setCell ⟨g, v * 6 + 5, none⟩ (.int .i64 x)) D p ⟨S.room, Tms.setTop S v x, S.bonds⟩ (.slice (some ⟨g, 0, none⟩) S.cells.length cap) bv A ∧ Keeps w (w.setCell ⟨g, v * 6 + 5, none⟩ (.int .i64 x)) D := by
  have hp : p ≠ g := fun e => h.pc (by rw [e]; rfl)
  have hb : ∀ k, bv.ownBlock = some k → k ≠ g := fun k hk e => h.ne g rfl (by rw [← e]; exact hk)
  have hs := h.own.stored rfl v hv 5 (by decide) (.int .i64 x) { S.cells[v] with top := x } (by rintro cs ⟨av, rfl, hav⟩; exact ⟨av, rfl, hav⟩)
  refine ⟨⟨(Below.heap_setCell _ _ _ _ hp).trans h.row, ?_, h.bonds.keep (by simp [World.setCell]) fun b hlt hq => ?_, h.ne, h.pc, h.pb, h.ap, h.ab, h.dp, h.dc, h.db, h.da, fun b hb => by have := h.dl b hb; simpa [World.setCell] using this⟩, rfl, rfl, rfl, by simp [World.setCell], fun b _ hb => Below.heap_setCell _ _ _ _ fun e => hb (by have e : b = g := e; rw [e]; exact h.dc g rfl)⟩
  · rw [setTop_at hv]; exact hs
  · rcases hq with hq | hq
    · exact hq.elim
    · exact Below.heap_setCell _ _ _ _ (hb b hq)
theorem PtAt.setTop {w : World} {C : PtC} {D : Nat → Prop} {S : Sto} {F : List (Int × Int)} {need : Int} {g cap : Nat} {bv : Value} {A : Nat → Prop} (h : PtAt w C D S F need) (hr : StoRow w D C.p S (.slice (some ⟨g, 0, none⟩) S.cells.length cap) bv A) (v : Nat) (hv : v < S.cells.length) (x : Int) :
    PtAt (w.setCell ⟨g, v * 6 + 5, none⟩ (.int .i64 x)) C D ⟨S.room, Tms.setTop S v x, S.bonds⟩ F need ∧ Keeps w (w.setCell ⟨g, v * 6 + 5, none⟩ (.int .i64 x)) D := by
  obtain ⟨h1, h2⟩ := hr.setTop v hv x
  exact ⟨⟨(h2.block _ h.plt h.dpb).trans h.prow, ⟨_, _, _, h1⟩, h.vars.below fun b e => h2.block b (h.vlt b e) (h.dvb b e).1, h.fresh.below (h2.block _ h.fresh.lt h.dfb), h.dpb, h.dfb, h.dvb⟩, h2⟩
/-- the outer loop: so many cells have their tops -/
def TopRel (C : PtC) (D : Nat → Prop) (S : Sto) (T : Int) (new : List SCell) (F : List (Int × Int)) (need : Int) (W : World) (v12 v13 : Value) (wr : World) : Prop :=
  ∃ j : Nat, j ≤ new.length ∧ v12 = .int .i64 (runTop T (new.take j)) ∧ v13 = .int .i64 ((S.cells.length + j : Nat) : Int) ∧ PtAt wr C D (topS S T new j) F need ∧ Keeps W wr D
def MaxRel (T : Int) (L : List Int) (v12 v84 : Value) : Prop := ∃ i : Nat, i ≤ L.length ∧ v84 = .int .i64 i ∧ v12 = .int .i64 (maxA T (L.take i))
/-- the new variables' numbers: none is told, none twice -/
def NewF (told : Int → Option Int) (F : List (Int × Int)) : Prop := (F.map (·.1)).Nodup ∧ ∀ p ∈ F, told p.1 = none
theorem newF_nil (told : Int → Option Int) : NewF told [] := ⟨List.nodup_nil, by simp⟩
theorem mget_none : ∀ {l : List (Int × Int)} {n : Int}, mget l n = none ↔ ∀ p ∈ l, p.1 ≠ n
  | [], n => by simp [mget]
  | p :: l, n => by
    simp only [mget]
    by_cases h : n = p.1
    · simp [h]
    · rw [if_neg h, mget_none]
      simp only [List.mem_cons, forall_eq_or_imp]
      exact ⟨fun h' => ⟨fun e => h e.symm, h'⟩, fun h' => h'.2⟩
theorem newF_snoc {told : Int → Option Int} {F : List (Int × Int)} {n x : Int} (h : NewF told F) (h1 : told n = none) (h2 : mget F n = none) : NewF told (F ++ [(n, x)]) := by
  refine ⟨?_, fun p hp => ?_⟩
  · rw [List.map_append]
    refine List.nodup_append.2 ⟨h.1, by simp, fun a ha b hb => ?_⟩
    simp only [List.map_cons, List.map_nil, List.mem_singleton] at hb
    obtain ⟨p, hp, rfl⟩ := List.mem_map.1 ha
    rw [hb]
    exact mget_none.1 h2 p hp
  · rcases List.mem_append.1 hp with hp | hp
    · exact h.2 p hp
    · simp only [List.mem_singleton] at hp; rw [hp]; exact h1
mutual
theorem putT_new (told : Int → Option Int) (T0 : Int) : ∀ (t : Tm) (b : Nat) (F : List (Int × Int)), NewF told F → NewF told (putT told T0 b F t).2.2
  | .mk k n s a, b, F, h => by
    by_cases k1 : k = 1
    · rw [putT_var (t := .mk k n s a) k1]
      cases h1 : told (Tm.mk k n s a).n with
      | some x => exact h
      | none =>
        cases h2 : mget F (Tm.mk k n s a).n with
        | some x => exact h
        | none => exact newF_snoc h h1 h2
    · by_cases k4 : k = 4
      · rw [putT_comp (t := .mk k n s a) k4]; exact putL_new told T0 a _ _ h
      · rw [putT_leaf (t := .mk k n s a) k1 k4]; exact h
theorem putL_new (told : Int → Option Int) (T0 : Int) : ∀ (l : List Tm) (b : Nat) (F : List (Int × Int)), NewF told F → NewF told (putL told T0 b F l).2.2
  | [], b, F, h => by simpa [putL] using h
  | t :: l, b, F, h => by simp only [putL]; exact putL_new told T0 l _ _ (putT_new told T0 t b F h)
end
/-- the range over the new variables: these are told by now, these not yet -/
def RngRel (p : Nat) (D : Nat → Prop) (S : Sto) (M F : List (Int × Int)) (r fb b : Nat) (W : World) (k : Nat) (wr : World) : Prop :=
  ∃ done rest, F.Perm (done ++ rest) ∧ rest.length = k ∧ ItAt wr r fb rest ∧ IMapB wr b (M ++ done) ∧ StoAt wr D p S ∧ Keeps W wr (fun x => x = b)
theorem mget_app {l m : List (Int × Int)} {n : Int} (h : mget l n = none) : mget (l ++ m) n = mget m n := by
  induction l with
  | nil => rfl
  | cons p l ih =>
    simp only [mget] at h
    split at h
    · cases h
    · rename_i hne
      simp only [List.cons_append, mget, if_neg hne]
      exact ih h
/-- one more is told -/
theorem rng_mset {M F done rest : List (Int × Int)} {q : Int × Int} {l' : List (Int × Int)} (hF : NewF (fun n => mget M n) F) (h : F.Perm (done ++ rest)) (hq : rest.Perm (q :: l')) : mset q.1 q.2 (M ++ done) = M ++ (done ++ [q]) ∧ F.Perm ((done ++ [q]) ++ l') := by
  have hp : F.Perm ((done ++ [q]) ++ l') := h.trans (by rw [List.append_assoc]; exact hq.append_left done)
  have hn := (hp.map (·.1)).nodup_iff.1 hF.1
  have hm : mget M q.1 = none := hF.2 q (hp.mem_iff.2 (by simp))
  have hd : mget done q.1 = none := mget_none.2 fun p hpm e => by
    rw [List.append_assoc, List.map_append] at hn
    have := (List.nodup_append.1 hn).2.2 p.1 (List.mem_map.2 ⟨p, hpm, rfl⟩) q.1 (by simp)
    exact this e
  refine ⟨?_, hp⟩
  rw [mset_new (by rw [mget_app hm]; exact hd), List.append_assoc]
end Go.Proofs.Ytoklbeogmcdgaaa.Tms
namespace Go.Proofs.Ytoklbeogmcdgaaa.Tms
open Go Go.RowKit Go.Proofs.Ytoklbeogmcdgaaa.Reg Go.Proofs.Ytoklbeogmcdgaaa.Rws Go.Proofs.Ytoklbeogmcdgaaa.Maps
set_option linter.unusedVariables false
set_option linter.unusedSimpArgs false

/-- what Put makes -/
def putR (S : Sto) (M : List (Int × Int)) (t : Tm) : Int × List SCell × List (Int × Int) := putT (fun n => mget M n) (lastTop S.cells) S.cells.length [] t
def putS (S : Sto) (M : List (Int × Int)) (t : Tm) : Sto := plusS S (fixTop (lastTop S.cells) (putR S M t).2.1)
/-- the store has become this; if variables are told, the new ones are told, too, in whatever order -/
def PutOk (S : Sto) (D : Nat → Prop) (p : Nat) (r : Option Nat) (M : List (Int × Int)) (t : Tm) (w : World) (e : Ending) (w' : World) : Prop :=
  e = .returned (.tuple #[.int .i64 (putR S M t).1, .int .i64 0]) ∧ ∃ D', StoAt w' D' p (putS S M t) ∧ Keeps w w' (fun b => D b ∨ r = some b) ∧ (∀ b, D' b → D b ∨ (w.heap.size ≤ b ∧ b < w'.heap.size)) ∧ ∀ b, r = some b → ∃ F', (putR S M t).2.2.Perm F' ∧ IMapB w' b (M ++ F')
theorem put_keeps {w w2 W w7 w8 : World} {D : Nat → Prop} {p : Nat} {vv : Value} {M : List (Int × Int)} (h1 : Below w.heap.size w w2) (h2 : Below w2.heap.size w2 W) (h3 : Keeps W w7 (PtM (putC w2 p vv M))) (h4 : Keeps w7 w8 (fun b => D b ∨ b = (putC w2 p vv M).fb)) : Keeps w w8 D := by
  have z1 := h1.size
  have z2 := h2.size
  have z3 := h3.size
  refine ⟨h4.os.trans (h3.os.trans (h2.os.trans h1.os)), h4.tape.trans (h3.tape.trans (h2.tape.trans h1.tape)), h4.output.trans (h3.output.trans (h2.output.trans h1.output)), by have := h4.size; omega, fun b hlt hd => ?_⟩
  have e : (putC w2 p vv M).fb = w2.heap.size := rfl
  have e2 : (putC w2 p vv M).pb = w2.heap.size + 1 := rfl
  exact (h4.block b (by omega) fun h => h.elim hd fun h => by omega).trans ((h3.block b (by omega) fun h => h.elim (fun h => by omega) fun h => by omega).trans ((h2.block b (by omega)).trans (h1.block b hlt)))
theorem put_grown {w w2 W w7 w8 : World} {D D8 : Nat → Prop} {p : Nat} {vv : Value} {M : List (Int × Int)} (h1 : Below w.heap.size w w2) (h2 : Below w2.heap.size w2 W) (h3 : Keeps W w7 (PtM (putC w2 p vv M))) (h4 : ∀ b, D8 b → D b ∨ (w7.heap.size ≤ b ∧ b < w8.heap.size)) : ∀ b, D8 b → D b ∨ (w.heap.size ≤ b ∧ b < w8.heap.size) := fun b hb => by
  have z1 := h1.size
  have z2 := h2.size
  have z3 := h3.size
  rcases h4 b hb with h | h
  · exact .inl h
  · exact .inr ⟨by omega, h.2⟩
theorem StoAt.dl' {w : World} {D : Nat → Prop} {S : Sto} {p : Nat} (h : StoAt w D p S) : ∀ b, D b → b < w.heap.size := by obtain ⟨cv, bv, A, h⟩ := h; exact h.dl
theorem rng_next {p : Nat} {D : Nat → Prop} {S : Sto} {M F done : List (Int × Int)} {ri fb b : Nat} {W wr wn w9 : World} {q : Int × Int} {l' : List (Int × Int)} (hpm : F.Perm ((done ++ [q]) ++ l')) (hin : ItNow wn ri fb q l') (hgn : wr.grownBy wn (some ri)) (hm9 : IMapB w9 b (M ++ (done ++ [q]))) (hg9 : wn.grownBy w9 (some b)) (hso : StoAt wr D p S) (hk : Keeps W wr (fun x => x = b))
    (hnb : b ≠ fb) (hnr : ri ≠ b) (hdb : ¬ D b) (hrd : ¬ D ri) (hri : W.heap.size ≤ ri) : RngRel p D S M F ri fb b W l'.length w9 := by
  have h1 := hin.at.lt
  have k9 : ∀ x, x < wn.heap.size → x ≠ b → w9.heap[x]? = wn.heap[x]? := fun x hx hb => hg9.block x hx fun e => hb (Option.some.inj e)
  have kn : ∀ x, x < wr.heap.size → x ≠ ri → wn.heap[x]? = wr.heap[x]? := fun x hx hb => hgn.block x hx fun e => hb (Option.some.inj e)
  refine ⟨done ++ [q], l', hpm, rfl, hin.at.keep (k9 _ h1.1 hnr) (k9 _ h1.2.1 fun e => hnb e.symm), hm9, hso.keep (Nat.le_trans hgn.size hg9.size) fun x hx hd => (k9 x (by have := hgn.size; omega) fun e => hdb (e ▸ hd)).trans (kn x hx fun e => hrd (e ▸ hd)), ?_⟩
  refine hk.trans (M' := fun x => x = b ∨ x = ri) ⟨hg9.os.trans hgn.os, hg9.tape.trans hgn.tape, hg9.output.trans hgn.output, Nat.le_trans hgn.size hg9.size, fun x hx hn => (k9 x (by have := hgn.size; omega) fun e => hn (.inl e)).trans (kn x hx fun e => hn (.inr e))⟩ fun x hx => ?_
  rcases hx with hx | hx
  · exact .inl hx
  · exact .inr (by omega)
theorem put_ok_some {S : Sto} {D D8 : Nat → Prop} {p b : Nat} {M : List (Int × Int)} {t : Tm} {w w8 wr wl : World} {at8 T0 : Int} {new : List SCell} {F8 done rest : List (Int × Int)} (hR : (at8, new, F8) = putR S M t) (hT : T0 = lastTop S.cells) (h0 : rest = []) (hp : F8.Perm (done ++ rest)) (hm : IMapB wl b (M ++ done)) (hs : StoAt wl D8 p (plusS S (fixTop T0 new))) (hk8 : Keeps w w8 D) (hk : Keeps w8 wr D8) (hkb : Keeps wr wl (fun x => x = b))
    (hg : ∀ b, D8 b → D b ∨ (w.heap.size ≤ b ∧ b < w8.heap.size)) : PutOk S D p (some b) M t w (.returned (.tuple #[.int .i64 at8, .int .i64 0])) wl := by
  have hz := hk.size
  have hz2 := hkb.size
  have hz8 := hk8.size
  refine ⟨by rw [← hR], D8, by unfold putS; rw [← hR, ← hT]; exact hs, ?_, fun b hb => ?_, fun b' e => ?_⟩
  · have h := hk8.trans hk fun b hb => (hg b hb).imp_right fun h => h.1
    refine ⟨hkb.os.trans h.os, hkb.tape.trans h.tape, hkb.output.trans h.output, Nat.le_trans h.size hz2, fun x hlt hn => (hkb.block x (by omega) fun e => hn (.inr (by rw [e]))).trans (h.block x hlt fun e => hn (.inl e))⟩
  · rcases hg b hb with h | h
    · exact .inl h
    · exact .inr ⟨h.1, by omega⟩
  · obtain rfl := Option.some.inj e
    subst h0
    rw [List.append_nil] at hp
    exact ⟨done, by rw [← hR]; exact hp, hm⟩
theorem put_ok_none {S : Sto} {D D8 : Nat → Prop} {p : Nat} {M : List (Int × Int)} {t : Tm} {w w8 wr : World} {at8 T0 : Int} {new : List SCell} {F8 : List (Int × Int)} (hR : (at8, new, F8) = putR S M t) (hT : T0 = lastTop S.cells) (hs : StoAt wr D8 p (plusS S (fixTop T0 new))) (hk8 : Keeps w w8 D) (hk : Keeps w8 wr D8)
    (hg : ∀ b, D8 b → D b ∨ (w.heap.size ≤ b ∧ b < w8.heap.size)) : PutOk S D p none M t w (.returned (.tuple #[.int .i64 at8, .int .i64 0])) wr := by
  have hz := hk.size
  refine ⟨by rw [← hR], D8, by unfold putS; rw [← hR, ← hT]; exact hs, ?_, fun b hb => ?_, fun b e => by cases e⟩
  · have h := hk8.trans hk fun b hb => (hg b hb).imp_right fun h => h.1
    exact ⟨h.os, h.tape, h.output, h.size, fun b hlt hb => h.block b hlt fun e => hb (.inl e)⟩
  · rcases hg b hb with h | h
    · exact .inl h
    · exact .inr ⟨h.1, by omega⟩
set_option maxRecDepth 100000 in
set_option maxHeartbeats 8000000 in
theorem sto_Put_ok {S : Sto} {D : Nat → Prop} {p : Nat} (w : World) (hS : StoAt w D p S) (t : Tm) (v : Value) (r : Option Nat) (P : Nat → Prop) (M : List (Int × Int)) (hM : t.size ≤ 1000000) (h1 : IsTm w P v t) (hv : VMap w (.map r) M) (hd : ∀ b, Value.map r = .map (some b) → ¬ D b)
    (hPD : ∀ b, P b → ¬ D b) (hl : S.cells.length + t.size ≤ 20000000) (hr0 : 0 ≤ S.room) (hr1 : S.room ≤ 16777216) (hc : checkT t = 0) (hx : (cntT (fun n => mget M n) S.cells.length 0 [] t).1 = true) (hf : ((cntT (fun n => mget M n) S.cells.length 0 [] t).2.1 : Int) ≤ S.room - S.cells.length) :
    Calls Try.prog 17 #[.pointer (some ⟨p, 0, none⟩), v, .map r] w (PutOk S D p r M t w) := by
  have HC := Lib.hid hc
  have HX := Lib.hid hx
  have HF := Lib.hid hf
  have HRL := Lib.hid hl
  have hl0 : S.cells.length ≤ 20000000 := by omega
  have HPD := Lib.hid hPD
  clear hc hx hf hPD
  replace h1 := h1.lt
  obtain ⟨a, cap, rfl⟩ := h1.form
  have hb0 := below_new w (rowT t a cap)
  have hz0 : (w.alloc (rowT t a cap)).heap.size = w.heap.size + 1 := by simp
  have hrow : (w.alloc (rowT t a cap)).heap[w.heap.size]? = some (rowT t a cap) := heap_alloc_new w _
  have hvl : ∀ b, Value.map r = .map (some b) → b < w.heap.size := fun b e => by
    rcases hv with ⟨h, -⟩ | ⟨b', h, hm⟩
    · rw [e] at h; cases h
    · rw [e] at h
      simp only [Value.map.injEq, Option.some.injEq] at h
      rw [h]; exact hm.lt
  obtain ⟨x0, x1, x2, x3⟩ := row4 hrow
  have H1 := Lib.hid h1
  have HB := Lib.hid hb0
  have HR := Lib.hid hrow
  have HS := Lib.hid hS
  have HV := Lib.hid hv
  have HD := Lib.hid hd
  have HVL := Lib.hid hvl
  have HM := Lib.hid hM
  clear h1 hb0 hz0 hrow hS hv hd hM hvl
  go_enter Try.func17, Try.ntmps17
  go_wp2_with fail
  refine (tm_Check t _ _ _ (by have := HM.out; omega) (H1.out.below HB.out)).mono ?_
  rintro e2 w2 ⟨rfl, hb2⟩
  rw [HC.out]
  have hr2 := (hb2.block _ (Array.getElem?_eq_some_iff.1 HR.out).1).trans HR.out
  have hb3 := HB.out.trans (hb2.mono HB.out.size)
  have HR2 := Lib.hid hr2
  have HB2 := Lib.hid hb3
  have hws : w.heap.size < w2.heap.size := (Array.getElem?_eq_some_iff.1 hr2).1
  have h4 := put_four (HS.out.below hb3) (HV.out.below fun b e => hb3.block b (HVL.out b e)) HD.out
  have HP4 := Lib.hid h4.1
  have HB4 := Lib.hid h4.2
  have HR4 := Lib.hid ((h4.2.block _ hws).trans hr2)
  clear hb2 hr2 hb3 h4 x0 x1 x2 x3
  go_upto_region 7 with (with_reducible show wpList _ _ _ (⟨some 27, _, _, _, _, _⟩ :: _) _ _
                         refine wpList_imap_made rfl _ rfl ?_)
  have hP4 : PtAt ((w2.alloc (.map #[] 0)).alloc (.cells #[.pointer (some ⟨p, 0, none⟩), .map r, .map (some w2.heap.size), .int .i64 0] 106 (0, 0))) (putC w2 p (.map r) M) D S [] 0 := HP4.out
  have hB4 : Below w2.heap.size w2 ((w2.alloc (.map #[] 0)).alloc (.cells #[.pointer (some ⟨p, 0, none⟩), .map r, .map (some w2.heap.size), .int .i64 0] 106 (0, 0))) := HB4.out
  have hR4 : ((w2.alloc (.map #[] 0)).alloc (.cells #[.pointer (some ⟨p, 0, none⟩), .map r, .map (some w2.heap.size), .int .i64 0] 106 (0, 0))).heap[w.heap.size]? = some (rowT t a cap) := HR4.out
  replace HP4 := Lib.hid hP4
  replace HB4 := Lib.hid hB4
  replace HR4 := Lib.hid hR4
  clear hP4 hB4 hR4
  generalize (w2.alloc (.map #[] 0)).alloc (.cells #[.pointer (some ⟨p, 0, none⟩), .map r, .map (some w2.heap.size), .int .i64 0] 106 (0, 0)) = W at *
  obtain ⟨x0, x1, x2, x3⟩ := row4 HR4.out
  have HIN : Hid (IsTm W (fun b => P b ∧ b < w.heap.size) (.agg #[.int .i64 t.k, .int .i64 t.n, .string t.s, .slice a t.args.length cap]) t) := Lib.hid ((H1.out.below HB2.out).below HB4.out)
  have hpm : ∀ b, (P b ∧ b < w.heap.size) → ¬ PtM (putC w2 p (.map r) M) b := fun b hb h => by
    rcases h with h | h
    · have h : b = w2.heap.size + 1 := h
      omega
    · have h : b = w2.heap.size := h
      omega
  have HPM := Lib.hid hpm
  clear hpm
  go_wp2_with fail
  refine (pt_count (putC w2 p (.map r) M) D S t.size t _ _ [] 0 W (Nat.le_refl _) (by have := HM.out; omega) (check_may HC.out) HP4.out HIN.out HPM.out).mono ?_
  rintro e5 w5 ⟨rfl, hp5, hk5⟩
  have HB5 := Lib.hid (put_low (HB2.out.trans (HB4.out.mono HB2.out.size)) (by omega) hk5)
  have HX2 : Hid ((cntT (told (putC w2 p (.map r) M)) S.cells.length 0 [] t).1 = true) := Lib.hid HX.out
  rw [HX2.out]
  have hr5 := (hk5.block w.heap.size (Array.getElem?_eq_some_iff.1 HR4.out).1 fun h => by
    rcases h with h | h
    · have h : w.heap.size = w2.heap.size + 1 := h
      omega
    · have h : w.heap.size = w2.heap.size := h
      omega).trans HR4.out
  have HR5 := Lib.hid hr5
  have HP5 := Lib.hid hp5
  have HK5 := Lib.hid hk5
  clear hp5 hk5 hr5 x0 x1 x2 x3
  go_wp2
  refine wp_region_rest (by kernel_rfl) ?_
  have HP6 := Lib.hid (HP5.out.below (Below.refl w5.heap.size w5).drew)
  have HB6 := Lib.hid HB5.out.drew
  have hR6 : w5.drew.heap[w.heap.size]? = some (rowT t a cap) := HR5.out
  have HR6 := Lib.hid hR6
  have HK6 := Lib.hid (HK5.out.trans (Keeps.of (Below.refl w5.heap.size w5).drew) (M' := fun _ => False) fun b h => h.elim)
  clear hR6
  generalize w5.drew = W6 at *
  obtain ⟨c0, c1, c2, c3⟩ := putC_cells HP6.out
  obtain ⟨cv6, bv6, A6, hrow6⟩ := HP6.out.sto
  obtain ⟨q6, cp6, rfl⟩ := own_form hrow6.own
  have hrow6' : W6.heap[p]? = _ := hrow6.row
  obtain ⟨y0, y1, y2⟩ := row3 hrow6'
  have hcn : ((cntT (told (putC w2 p (.map r) M)) S.cells.length 0 [] t).2.1 : Nat) ≤ 1000000 := by have := cntT_le (told (putC w2 p (.map r) M)) S.cells.length t 0 []; have := HM.out; omega
  have HCN : Hid ((cntT (told (putC w2 p (.map r) M)) S.cells.length 0 [] t).2.1 = (cntT (fun n => mget M n) S.cells.length 0 [] t).2.1) := Lib.hid rfl
  rw [HCN.out] at c3 hcn
  have hbf : decide (S.room - (S.cells.length : Int) < ((cntT (fun n => mget M n) S.cells.length 0 [] t).2.1 : Int)) = false := by have := HF.out; simp; omega
  clear hrow6 hrow6'
  generalize (cntT (fun n => mget M n) S.cells.length 0 [] t).2.1 = need at *
  refine rest_chainP (fun u => u = W6) 0 13 (.soft 0 (.soft 1 (.soft 2 (.soft 3 (.soft 4 (.soft 5 (.soft 6 (.soft 7 (.soft 8 (.soft 9 (.soft 10 (.soft 11 (.soft 12 .nil))))))))))))) (.soft _ (.soft _ (.soft _ (.soft _ (.soft _ (.soft _ (.soft _ (.soft _ (.soft _ (.soft _ (.soft _ (.soft _ (.soft _ .nil))))))))))))) ⟨rfl, ⟨rfl, ⟨rfl, ⟨rfl, ⟨rfl, ⟨rfl, ⟨rfl, ⟨rfl, ⟨rfl, ⟨rfl, ⟨rfl, ⟨rfl, ⟨rfl, trivial⟩⟩⟩⟩⟩⟩⟩⟩⟩⟩⟩⟩⟩ (by kernel_rfl) (by kernel_rfl) (by kernel_rfl) (by kernel_rfl) (.inl rfl) rfl ?_
  refine chainP_soft (a1 := ?ma1) (by kernel_rfl) (by kernel_rfl) ?mh1 ?mr1
  case mh1 =>
    intro u hu E hE
    subst hu
    go_wp2
    rfl
  refine chainP_soft (a1 := ?ma2) (by kernel_rfl) (by kernel_rfl) ?mh2 ?mr2
  case mh2 =>
    intro u hu E hE
    subst hu
    go_wp2
    rfl
  refine chainP_soft (a1 := ?ma3) (by kernel_rfl) (by kernel_rfl) ?mh3 ?mr3
  case mh3 =>
    intro u hu E hE
    subst hu
    go_wp2
    rfl
  refine chainP_nck _ _ rfl rfl rfl ?_
  simp only [Act.put, List.getElem?_toArray, List.getElem?_cons_succ, List.getElem?_cons_zero, Option.bind_some, List.setIfInBounds_toArray, List.set_cons_succ, List.set_cons_zero, Nat.reduceAdd]
  refine chainP_soft (a1 := ?ma4) (by kernel_rfl) (by kernel_rfl) ?mh4 ?mr4
  case mh4 =>
    intro u hu E hE
    subst hu
    go_wp2
    rfl
  refine chainP_soft (a1 := ?ma5) (by kernel_rfl) (by kernel_rfl) ?mh5 ?mr5
  case mh5 =>
    intro u hu E hE
    subst hu
    go_wp2
    rfl
  refine chainP_soft (a1 := ?ma6) (by kernel_rfl) (by kernel_rfl) ?mh6 ?mr6
  case mh6 =>
    intro u hu E hE
    subst hu
    go_wp2
    rfl
  refine chainP_nck _ _ rfl rfl rfl ?_
  simp only [Act.put, List.getElem?_toArray, List.getElem?_cons_succ, List.getElem?_cons_zero, Option.bind_some, List.setIfInBounds_toArray, List.set_cons_succ, List.set_cons_zero, Nat.reduceAdd]
  refine chainP_soft (a1 := ?ma7) (by kernel_rfl) (by kernel_rfl) ?mh7 ?mr7
  case mh7 =>
    intro u hu E hE
    subst hu
    go_wp2
    rfl
  refine chainP_soft (a1 := ?ma8) (by kernel_rfl) (by kernel_rfl) ?mh8 ?mr8
  case mh8 =>
    intro u hu E hE
    subst hu
    go_wp2
    rfl
  refine chainP_soft (a1 := ?ma9) (by kernel_rfl) (by kernel_rfl) ?mh9 ?mr9
  case mh9 =>
    intro u hu E hE
    subst hu
    go_wp2
    rfl
  refine chainP_soft (a1 := ?ma10) (by kernel_rfl) (by kernel_rfl) ?mh10 ?mr10
  case mh10 =>
    intro u hu E hE
    subst hu
    go_wp2
    rfl
  refine chainP_soft (a1 := ?ma11) (by kernel_rfl) (by kernel_rfl) ?mh11 ?mr11
  case mh11 =>
    intro u hu E hE
    subst hu
    go_wp2
    rfl
  refine chainP_nil ?_
  refine rest_end (by decide) ?_
  clear c0 c1 c2 c3 y0 y1 y2 hbf hcn
  obtain ⟨c0, c1, c2, c3⟩ := putC_cells HP6.out
  go_wp2_with (with_reducible show wpList _ _ _ (⟨none, .call _, _, _, _, _⟩ :: _) _ _
               refine wpList_imapb_clear rfl (.tmp 46) _ _ _ rfl Try.underlying47 w2.heap.size _ rfl HP6.out.fresh ?_
               intro w7 hm7 hg7
               have h7 := HP6.out.newFresh hg7 hm7
               have hr7 := (h7.2.block w.heap.size (Array.getElem?_eq_some_iff.1 HR6.out).1 fun h => by
                 rcases h with h | h
                 · have h : w.heap.size = w2.heap.size + 1 := h
                   omega
                 · have h : w.heap.size = w2.heap.size := h
                   omega).trans HR6.out
               have HP7 := Lib.hid h7.1
               have HK7 := Lib.hid (HK6.out.trans h7.2 fun b h => .inl h)
               have HR7 := Lib.hid hr7
               clear hm7 hg7 h7 hr7 c0 c1 c2 c3
               obtain ⟨cv7, bv7, A7, hrow7⟩ := HP7.out.sto
               obtain ⟨q7, cp7, rfl⟩ := own_form hrow7.own
               have hrow7' : w7.heap[p]? = _ := hrow7.row
               obtain ⟨y0, y1, y2⟩ := row3 hrow7'
               obtain ⟨x0, x1, x2, x3⟩ := row4 HR7.out
               clear hrow7 hrow7')
  have HIN7 : Hid (IsTm w7 (fun b => P b ∧ b < w.heap.size) (.agg #[.int .i64 t.k, .int .i64 t.n, .string t.s, .slice a t.args.length cap]) t) := Lib.hid (HIN.out.imp (fun _ h => h) fun b hb hlt => HK7.out.block b hlt (HPM.out b hb))
  have hpd7 : ∀ b, (P b ∧ b < w.heap.size) → ¬ (D b ∨ b = (putC w2 p (.map r) M).fb) := fun b hb h => by
    rcases h with h | h
    · exact HPD.out b hb.1 h
    · have h : b = w2.heap.size := h
      omega
  refine (pt_put (putC w2 p (.map r) M) _ t.size t _ _ D S [] (lastTop S.cells) w7 (Nat.le_refl _) HRL.out (check_may HC.out) rfl HP7.out HIN7.out hpd7).mono ?_
  rintro e8 w8 ⟨rfl, D8, hp8, hk8, hg8⟩
  have hre : putT (told (putC w2 p (.map r) M)) (lastTop S.cells) S.cells.length [] t = putR S M t := rfl
  rw [hre] at hp8 ⊢
  have hnew : NewF (fun n => mget M n) (putR S M t).2.2 := putT_new _ _ _ _ _ (newF_nil _)
  have hlenr : (putR S M t).2.1.length ≤ t.size := putT_len _ _ _ _ _
  have hk8' := hk8
  have HK8 := Lib.hid (put_keeps HB2.out (HB4.out.mono (Nat.le_refl _)) HK7.out hk8')
  have HG8 := Lib.hid (put_grown HB2.out HB4.out HK7.out hg8)
  have HP8 := Lib.hid hp8
  have HNEW := Lib.hid hnew
  have hzz : w2.heap.size + 2 ≤ w8.heap.size := by have := hk8.size; have := HK7.out.size; have := HP4.out.plt; have e : (putC w2 p (.map r) M).pb = w2.heap.size + 1 := rfl; omega
  clear hp8 hk8 hk8' hg8 hre hnew hpd7 x0 x1 x2 x3 y0 y1 y2
  obtain ⟨R, hR⟩ : ∃ R, R = putR S M t := ⟨_, rfl⟩
  rw [← hR] at HP8 HNEW hlenr ⊢
  obtain ⟨at8, new, F8⟩ := R
  have HRE := Lib.hid hR
  clear hR
  dsimp only at HP8 HNEW hlenr ⊢
  have hln : S.cells.length + new.length ≤ 20000000 := by have := HRL.out; omega
  obtain ⟨T0, hT0⟩ : ∃ T0, T0 = lastTop S.cells := ⟨_, rfl⟩
  have HT0 := Lib.hid hT0
  go_upto_region 15 with fail
  obtain ⟨NN, hNN⟩ : ∃ NN, NN = S.cells.length := ⟨_, rfl⟩
  rw [← hNN]
  have HNN0 := Lib.hid hNN
  clear hNN hT0
  go_upto_if 55 with fail
  have hNN := HNN0.out
  have hT0 := HT0.out
  have HNN := Lib.hid hNN
  go_cut [12] (fun v wx => v = .int .i64 T0 ∧ w8 = wx)
  case first =>
    rcases nil_or_snoc S.cells with hB | ⟨l, cl, hB⟩
    · have hl0' : S.cells.length = 0 := by rw [hB]; rfl
      have hT : T0 = -1 := by rw [hT0, hB]; rfl
      obtain rfl : NN = 0 := hNN.trans hl0'
      have HTT := Lib.hid hT
      clear hT hT0 hB hl0' hNN
      go_wp2
      go_meet
      exact ⟨by rw [HTT.out], rfl⟩
    · have hl1 : S.cells.length = l.length + 1 := by rw [hB]; simp
      have hT : T0 = cl.top := by rw [hT0, hB]; simp [lastTop]
      have hlb : l.length + 1 ≤ 20000000 := by omega
      obtain ⟨gc, cp, bv, A, hrow⟩ := sto_open HP8.out.sto l.length (by show l.length < (S.cells ++ new).length; simp; omega)
      have hrow' : w8.heap[p]? = _ := hrow.row
      obtain ⟨y0, y1, y2⟩ := row3 hrow'
      have hcell : (plusS S new).cells[l.length]? = some cl := by show (S.cells ++ new)[l.length]? = some cl; rw [hB]; simp
      obtain ⟨av, d0, d1, d2, d3, d4, d5, -⟩ := hrow.cellAt l.length cl hcell
      have hlt2 : l.length < (plusS S new).cells.length := by show l.length < (S.cells ++ new).length; simp; omega
      have hlt3 : ((l.length : Nat) : Int) < ((plusS S new).cells.length : Int) := by omega
      have hcap := hrow.own.caps
      clear hrow hrow' hcell hB hT0
      obtain rfl : NN = l.length + 1 := hNN.trans hl1
      have HTT := Lib.hid hT
      clear hl1 hT hNN
      generalize (plusS S new).cells.length = LL at *
      have hcap1 := hcap.1
      clear hcap
      go_wp2
      go_meet
      exact ⟨by rw [HTT.out], rfl⟩
  case rest =>
    obtain ⟨rfl, rfl⟩ := hcut
    clear hT0
    have hst : TopRel (putC w2 p (.map r) M) D8 S T0 new F8 (cntT (told (putC w2 p (.map r) M)) S.cells.length 0 [] t).2.1 w8 (.int .i64 T0) (.int .i64 (NN : Int)) w8 :=
      ⟨0, by omega, rfl, by rw [hNN]; rfl, by rw [topS_zero]; exact HP8.out, Keeps.refl _ _⟩
    have HST := Lib.hid hst
    clear hst hNN
    go_wp2
    go_loopw [12, 13] (fun v12 v13 wr => TopRel (putC w2 p (.map r) M) D8 S T0 new F8 (cntT (told (putC w2 p (.map r) M)) S.cells.length 0 [] t).2.1 w8 v12 v13 wr) (fun _ v13 _ => S.cells.length + new.length - (intOf v13).toNat)
    case atStart => exact HST.out
    case round =>
      obtain ⟨j, hj, rfl, rfl, hpt, hk⟩ := hrel
      have HPT := Lib.hid hpt
      have HKT := Lib.hid hk
      clear HST
      have hLL : (topS S T0 new j).cells.length = S.cells.length + new.length := topS_len _ _ _ _ hj
      obtain ⟨gc, cp, bv, A, hrow⟩ : ∃ q cp bv A, StoRow wr D8 p (topS S T0 new j) (.slice q (topS S T0 new j).cells.length cp) bv A := by
        obtain ⟨cv, bv, A, h⟩ := hpt.sto
        obtain ⟨q, cp, rfl⟩ := own_form h.own
        exact ⟨q, cp, bv, A, h⟩
      have hrow' : wr.heap[p]? = _ := hrow.row
      obtain ⟨y0, y1, y2⟩ := row3 hrow'
      rw [hLL] at y1
      obtain ⟨x, hx⟩ : ∃ x, x = S.cells.length + j := ⟨_, rfl⟩
      obtain ⟨LL, hL⟩ : ∃ LL, LL = S.cells.length + new.length := ⟨_, rfl⟩
      by_cases hjl : j < new.length
      · obtain ⟨gc, rfl⟩ : ∃ g, gc = some ⟨g, 0, none⟩ := by
          rcases hrow.own.form with ⟨-, h⟩ | ⟨g, c, h⟩
          · have h' := congrArg List.length h; rw [hLL] at h'; simp only [List.length_nil] at h'; omega
          · simp only [Value.slice.injEq] at h; exact ⟨g, h.1⟩
        obtain ⟨av, -, -, -, d3, -, -, hav⟩ := hrow.cellAt (S.cells.length + j) new[j] (topS_at S T0 new j hjl)
        have hav' := hav
        obtain ⟨aa, ac, rfl, hac1, hac2, hel⟩ := hav'
        have hfz := hrow.own.thaw rfl ((S.cells.length + j) * 6 + 5)
        have hal : new[j].args.length ≤ 9223372036854775807 := by unfold maxLen at hac2; omega
        have h9 := hpt.setTop hrow (S.cells.length + j) (by rw [hLL]; omega) (maxA (runTop T0 (new.take j)) new[j].args)
        rw [topS_next S T0 new j hjl] at h9
        have hnx : runTop T0 (new.take (j + 1)) = maxA (runTop T0 (new.take j)) new[j].args := by rw [List.take_succ_eq_append_getElem hjl, runTop_snoc]
        have hcap := hrow.own.caps
        rw [hLL] at hcap
        have HAV := Lib.hid hel
        have HNX := Lib.hid hnx
        have hd5 : ∃ d, wr.cell? ⟨gc, (S.cells.length + j) * 6 + 5, none⟩ = some d := by
          obtain ⟨av', -, -, -, -, -, d5, -⟩ := hrow.cellAt (S.cells.length + j) new[j] (topS_at S T0 new j hjl)
          exact ⟨_, d5⟩
        obtain ⟨vd5, d5⟩ := hd5
        have HFL : Hid (∃ v, runTop T0 (new.take j) = v) := Lib.hid ⟨_, rfl⟩
        rw [← hx] at d3 hfz h9 d5 ⊢
        rw [← hL] at y1 hcap
        have HX := Lib.hid hx
        have H9 := Lib.hid h9
        have hxl : x < LL := by omega
        have hxl2 : (x : Int) < (LL : Int) := by omega
        have hx0 : (0 : Int) ≤ (x : Int) := by omega
        have hLb : LL ≤ 20000000 := by omega
        have hcap1 : LL ≤ cp := hcap.1
        have HJ := Lib.hid hjl
        have HT := Lib.hid (show maxA (runTop T0 (new.take j)) ([] : List Int) = runTop T0 (new.take j) from rfl)
        clear hpt hk hrow hrow' hav hel hnx h9 hcap hx hL hLL y0 y2
        obtain ⟨wo, hwo⟩ : ∃ wo : World, wo = wr := ⟨_, rfl⟩
        generalize hAG : new[j].args = L at *
        have HAG := Lib.hid hAG
        generalize hRT : runTop T0 (new.take j) = RT at *
        have HRT := Lib.hid hRT
        clear hAG hRT hwo
        have hml : MaxRel RT L (.int .i64 RT) (.int .i64 ((0 : Nat) : Int)) := ⟨0, by omega, rfl, rfl⟩
        have HML := Lib.hid hml
        clear hml
        go_wp2
        go_loop [12, 84] (fun v12 v84 => MaxRel RT L v12 v84) (fun _ v84 => L.length - (intOf v84).toNat)
        case atStart => exact HML.out
        case round =>
          obtain ⟨i, hi, rfl, rfl⟩ := hrel
          clear HML
          by_cases hil : i < L.length
          · obtain ⟨b, off, rfl, -, -, hc⟩ := HAV.out i hil
            have hil2 : (i : Int) < (L.length : Int) := by omega
            have hi0 : (0 : Int) ≤ (i : Int) := by omega
            have hs := maxA_snoc RT (L.take i) L[i]
            rw [← List.take_succ_eq_append_getElem hil] at hs
            have HS := Lib.hid hs
            clear hs
            generalize L[i] = el at *
            generalize hmm : maxA RT (L.take i) = mm at *
            have HMM := Lib.hid hmm
            clear hmm
            go_wp2
            go_round
            case rel => exact ⟨i + 1, by omega, by go_num, by rw [HS.out]⟩
            case measure => simp [intOf]; omega
          · obtain rfl : i = L.length := by omega
            have hil2 : decide ((L.length : Int) < (L.length : Int)) = false := by simp
            have htk : L.take L.length = L := List.take_length
            rw [htk]
            clear htk
            go_wp2
            go_roundw
            case rel => exact ⟨j + 1, by have := HJ.out; omega, by rw [HNX.out], by have := HX.out; go_num, H9.out.1, HKT.out.trans H9.out.2 fun b hb => .inl hb⟩
            case measure => have := HX.out; simp [intOf]; omega
      · obtain rfl : j = new.length := by omega
        have HX := Lib.hid hx
        have htop := topS_all S T0 new
        rw [← hL] at y1
        have hd8 : decide ((LL : Int) < (LL : Int)) = false := by simp
        have hx2 : ((S.cells.length + new.length : Nat) : Int) = (LL : Int) := by omega
        have hP9 : PtAt wr (putC w2 p (.map r) M) D8 (plusS S (fixTop T0 new)) F8 (cntT (told (putC w2 p (.map r) M)) S.cells.length 0 [] t).2.1 := by rw [← htop]; exact HPT.out
        have HP9 := Lib.hid hP9
        have hLb : LL ≤ 20000000 := by omega
        rw [hx2]
        clear hx2 hpt hk hrow hrow' hP9 hx hL hLL y0 y2 hj hjl htop
        have qT := fun (w : World) (r : Option Nat) => run_neq_map_nil (P := Try.prog) w 47 _ _ r Try.underlying47
        cases r with
        | none =>
          go_wp2
          go_ret2
          exact put_ok_none HRE.out HT0.out HP9.out.sto HK8.out HKT.out HG8.out
        | some b =>
          obtain ⟨wo, rfl⟩ : ∃ wo : World, wo = wr := ⟨_, rfl⟩
          obtain ⟨c0, c1, c2, c3⟩ := putC_cells HP9.out
          have hvb := HP9.out.dvb b rfl
          have hvm : IMapB wo b M := by
            rcases HP9.out.vars with ⟨h, -⟩ | ⟨b', h, hm⟩
            · cases h
            · simp only [putC, Value.map.injEq, Option.some.injEq] at h
              rw [h]; exact hm
          have hvl : b < w.heap.size := HVL.out b rfl
          have hfb : (putC w2 p (.map (some b)) M).fb = w2.heap.size := rfl
          have HVM := Lib.hid hvm
          have HVB := Lib.hid hvb
          clear hvm hvb hfb
          go_wp2_with (with_reducible show wpList _ _ _ (⟨some 104, _, _, _, _, _⟩ :: _) _ _
                       refine wpList_it_range rfl _ _ _ (.tmp 103) rfl Try.underlying47 w2.heap.size F8 rfl HP9.out.fresh ?_
                       intro wA hit hbA
                       have hst : RngRel p D8 (plusS S (fixTop T0 new)) M F8 wo.heap.size w2.heap.size b wo F8.length wA := ⟨[], F8, by simp, rfl, hit, by rw [List.append_nil]; exact HVM.out.below (hbA.block b HVM.out.lt), HP9.out.sto.below hbA, Keeps.of hbA⟩
                       have HST := Lib.hid hst
                       clear hit hbA hst c0 c1 c2 c3)
          have hrs : w.heap.size < wo.heap.size := by have := HKT.out.size; omega
          have hnb : b ≠ w2.heap.size := by omega
          have hnr : wo.heap.size ≠ b := by omega
          have hrd : ¬ D8 wo.heap.size := fun h => by have := HP9.out.sto.dl' _ h; omega
          have hri0 : wo.heap.size ≤ wo.heap.size := Nat.le_refl _
          obtain ⟨ri, hri1⟩ : ∃ ri, ri = wo.heap.size := ⟨_, rfl⟩
          rw [← hri1] at HST hnr hrd ⊢
          have hri : wo.heap.size ≤ ri := by omega
          clear hri0 hri1 hrs
          go_frame
          go_loopg [106] F8.length (fun k _ wl => RngRel p D8 (plusS S (fixTop T0 new)) M F8 ri w2.heap.size b wo k wl)
          case atStart => exact HST.out
          case round =>
            obtain ⟨done, rest, hpm, hrl, hit, hmb, hso, hkb⟩ := hrel
            have HPM2 := Lib.hid hpm
            have HIT := Lib.hid hit
            have HMB := Lib.hid hmb
            have HSO := Lib.hid hso
            have HKB := Lib.hid hkb
            have HRL2 := Lib.hid hrl
            clear hpm hit hmb hso hkb hrl HST
            rcases run_it_next (P := Try.prog) 0 ri w2.heap.size rest HIT.out with ⟨h0, hrun⟩ | ⟨q, l', wn, hq, hin, hgn, hrun⟩
            · have H0 := Lib.hid h0
              clear h0
              go_wp2
              go_ret2
              exact put_ok_some HRE.out HT0.out H0.out HPM2.out HMB.out HSO.out HK8.out HKT.out HKB.out HG8.out
            · have hent := run_it_entry (P := Try.prog) ri w2.heap.size q l' hin
              obtain ⟨hms, hpm2⟩ := rng_mset HNEW.out HPM2.out hq
              have HMS := Lib.hid hms
              have HPM3 := Lib.hid hpm2
              have HIN2 := Lib.hid hin
              have HGN := Lib.hid hgn
              have HMN := Lib.hid (HMB.out.below (hgn.block b HMB.out.lt fun e => hnr (Option.some.inj e).symm))
              have HQL : Hid (rest.length = l'.length + 1) := Lib.hid (by have := hq.length_eq; simpa using this)
              clear hms hpm2 hin hgn hq
              go_wp2_with (with_reducible show wpList _ _ _ (⟨none, .mapUpdate _ _ _ _, _, _, _, _⟩ :: _) _ _
                           refine wpList_imapb_set rfl 47 (.tmp 110) (.tmp 111) (.tmp 112) rfl _ _ _ Try.underlying47 Try.underlying2 b _ rfl HMN.out q.1 rfl q.2 rfl ?_
                           intro w9 hm9 hg9
                           rw [HMS.out] at hm9
                           have hrel : RngRel p D8 (plusS S (fixTop T0 new)) M F8 ri w2.heap.size b wo l'.length w9 := rng_next HPM3.out HIN2.out HGN.out hm9 hg9 HSO.out HKB.out hnb hnr HVB.out.1 hrd hri
                           have HREL := Lib.hid hrel
                           clear hm9 hg9 hrel hent hrun)
              go_roundg l'.length
              case measure => have := HQL.out; have := HRL2.out; omega
              case rel => exact HREL.out
end Go.Proofs.Ytoklbeogmcdgaaa.Tms
