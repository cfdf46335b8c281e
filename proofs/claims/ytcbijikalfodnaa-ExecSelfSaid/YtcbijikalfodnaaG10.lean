/-
  Layer texts, glued and made small.
-/
import Derived.Test.YtcbijikalfodnaaG09
import Derived.WalkSpells
set_option linter.unusedVariables false
set_option linter.unusedSimpArgs false
set_option maxRecDepth 100000
set_option maxHeartbeats 8000000
namespace Go.Proofs.Ytcbijikalfodnaa.Tms
open Go Go.RowKit Go.Proofs.Ytcbijikalfodnaa.Reg Go.Proofs.Ytcbijikalfodnaa.Rws Go.Proofs.Ytcbijikalfodnaa.Maps
mutual
def cntT (told : Int → Option Int) (N : Nat) : Nat → List (Int × Int) → Tm → Bool × Nat × List (Int × Int)
 | c, F, .mk k n s a => if k = 1 then
    match told n with
    | some at_ => (decide (0 ≤ at_) && decide (at_ < (N : Int)), c, F)
    | none => match mget F n with
      | some _ => (true, c, F)
      | none => (true, c + 1, F ++ [(n, -1)])
   else cntL told N (c + 1) F a
def cntL (told : Int → Option Int) (N : Nat) : Nat → List (Int × Int) → List Tm → Bool × Nat × List (Int × Int)
 | c, F, [] => (true, c, F)
 | c, F, t :: l => if (cntT told N c F t).1 = true then cntL told N (cntT told N c F t).2.1 (cntT told N c F t).2.2 l else cntT told N c F t
end
theorem cntT_var {told : Int → Option Int} {N c : Nat} {F : List (Int × Int)} {t : Tm} (h : t.k = 1) : cntT told N c F t = match told t.n with
 | some at_ => (decide (0 ≤ at_) && decide (at_ < (N : Int)), c, F)
 | none => match mget F t.n with
   | some _ => (true, c, F)
   | none => (true, c + 1, F ++ [(t.n, -1)]) := by
 obtain ⟨k, n, s, a⟩ := t; simp only [Tm.k] at h; simp only [cntT, if_pos h]; rfl
theorem cntT_not {told : Int → Option Int} {N c : Nat} {F : List (Int × Int)} {t : Tm} (h : t.k ≠ 1) : cntT told N c F t = cntL told N (c + 1) F t.args := by
 obtain ⟨k, n, s, a⟩ := t; simp only [Tm.k] at h; simp only [cntT, if_neg h]; rfl
theorem cntL_pos {told : Int → Option Int} {N c : Nat} {F : List (Int × Int)} {x : Tm} {l : List Tm} (h : (cntT told N c F x).1 = true) : cntL told N c F (x :: l) = cntL told N (cntT told N c F x).2.1 (cntT told N c F x).2.2 l := by
 simp only [cntL]; exact if_pos h
theorem cntL_neg {told : Int → Option Int} {N c : Nat} {F : List (Int × Int)} {x : Tm} {l : List Tm} (h : ¬ (cntT told N c F x).1 = true) : cntL told N c F (x :: l) = cntT told N c F x := by
 simp only [cntL]; exact if_neg h
theorem cntL_nil (told : Int → Option Int) (N c : Nat) (F : List (Int × Int)) : cntL told N c F [] = (true, c, F) := by simp only [cntL]
theorem cntL_snoc (told : Int → Option Int) (N : Nat) (t : Tm) : ∀ (l : List Tm) (c : Nat) (F : List (Int × Int)), (cntL told N c F l).1 = true → cntL told N c F (l ++ [t]) = cntT told N (cntL told N c F l).2.1 (cntL told N c F l).2.2 t
 | [], c, F, _ => by
   simp only [List.nil_append]
   by_cases h : (cntT told N c F t).1 = true
   ·rw [cntL_pos h, cntL_nil, cntL_nil]
    exact Prod.ext h.symm rfl
   ·rw [cntL_neg h, cntL_nil]
 | x :: l, c, F, hk => by
   simp only [List.cons_append]
   by_cases h : (cntT told N c F x).1 = true
   ·rw [cntL_pos h] at hk ⊢
    rw [cntL_snoc told N t l _ _ hk, cntL_pos h]
   ·rw [cntL_neg h] at hk
    exact absurd hk h
theorem cntL_take {told : Int → Option Int} {N : Nat} {c : Nat} {F : List (Int × Int)} {ts : List Tm} {q : Nat} (h : q < ts.length) (hk : (cntL told N c F (ts.take q)).1 = true) :
 cntL told N c F (ts.take (q + 1)) = cntT told N (cntL told N c F (ts.take q)).2.1 (cntL told N c F (ts.take q)).2.2 ts[q] := by
 rw [List.take_succ_eq_append_getElem h, cntL_snoc _ _ _ _ _ _ hk]
theorem cntL_stop {told : Int → Option Int} {N : Nat} : ∀ {l m : List Tm} {c : Nat} {F : List (Int × Int)}, ¬ (cntL told N c F l).1 = true → cntL told N c F (l ++ m) = cntL told N c F l
 | [], m, c, F, h => absurd (by rw [cntL_nil]) h
 | x :: l, m, c, F, h => by
   simp only [List.cons_append]
   by_cases hx : (cntT told N c F x).1 = true
   ·rw [cntL_pos hx] at h
    rw [cntL_pos hx, cntL_pos hx, cntL_stop h]
   ·rw [cntL_neg hx, cntL_neg hx]
mutual
theorem cntT_le (told : Int → Option Int) (N : Nat) : ∀ (t : Tm) (c : Nat) (F : List (Int × Int)), (cntT told N c F t).2.1 ≤ c + t.size
 | .mk k n s a, c, F => by
   by_cases k1 : k = 1
   ·rw [cntT_var (t := .mk k n s a) k1]
    simp only [Tm.size]; cases told (Tm.mk k n s a).n with
    | some x => dsimp only; omega
    | none => cases mget F (Tm.mk k n s a).n <;> dsimp only <;> omega
   ·rw [cntT_not (t := .mk k n s a) k1]
    have := cntL_le told N a (c + 1) F; simp only [Tm.size, Tm.args]; omega
theorem cntL_le (told : Int → Option Int) (N : Nat) : ∀ (l : List Tm) (c : Nat) (F : List (Int × Int)), (cntL told N c F l).2.1 ≤ c + sizeL l
 | [], c, F => by simp [cntL, sizeL]
 | t :: l, c, F => by
   simp only [sizeL]; have h1 := cntT_le told N t c F
   by_cases hx : (cntT told N c F t).1 = true
   ·rw [cntL_pos hx]
    have := cntL_le told N l (cntT told N c F t).2.1 (cntT told N c F t).2.2; omega
   ·rw [cntL_neg hx]
    omega
end
structure PtC where
 pb : Nat
 p : Nat
 fb : Nat
 vv : Value
 M : List (Int × Int)
abbrev ptO (C : PtC) (need : Int) : Obj := .cells #[.pointer (some ⟨C.p, 0, none⟩), C.vv, .map (some C.fb), .int .i64 need] 102 (0, 0)
structure PtAt (w : World) (C : PtC) (D : Nat → Prop) (S : Sto) (F : List (Int × Int)) (need : Int) : Prop where
 prow : w.heap[C.pb]? = some (ptO C need)
 sto : StoAt w D C.p S
 vars : VMap w C.vv C.M
 fresh : IMapB w C.fb F
 dpb : ¬ D C.pb
 dfb : ¬ D C.fb
 dvb : ∀ b, C.vv = .map (some b) → ¬ D b ∧ b ≠ C.fb
section
variable {w w' : World} {C : PtC} {D : Nat → Prop} {S : Sto} {F : List (Int × Int)} {need : Int}
theorem StoAt.dl (h : StoAt w D C.p S) : ∀ b, D b → b < w.heap.size := by obtain ⟨cv, bv, A, h⟩ := h; exact h.dl
theorem StoAt.dp {p : Nat} (h : StoAt w D p S) : D p := by obtain ⟨cv, bv, A, h⟩ := h; exact h.dp
theorem PtAt.vlt (h : PtAt w C D S F need) : ∀ b, C.vv = .map (some b) → b < w.heap.size := by
 intro b e; rcases h.vars with ⟨h, -⟩ | ⟨b', h, hm⟩
 ·rw [e] at h; cases h
 ·rw [e] at h
  simp only [Value.map.injEq, Option.some.injEq] at h; rw [h]; exact hm.lt
theorem PtAt.plt (h : PtAt w C D S F need) : C.pb < w.heap.size := (Array.getElem?_eq_some_iff.1 h.prow).1
theorem PtAt.pf (h : PtAt w C D S F need) : C.pb ≠ C.fb := fun e => by
 obtain ⟨es, c, h1, -⟩ := h.fresh; rw [← e, h.prow] at h1
 simp at h1
theorem PtAt.pv (h : PtAt w C D S F need) : ∀ b, C.vv = .map (some b) → C.pb ≠ b := fun b e e' => by
 rcases h.vars with ⟨h1, -⟩ | ⟨b', h1, hm⟩
 ·rw [e] at h1; cases h1
 ·rw [e] at h1
  simp only [Value.map.injEq, Option.some.injEq] at h1; obtain ⟨es, c, h2, -⟩ := hm; rw [← h1, ← e', h.prow] at h2
  simp at h2
theorem PtAt.keep (h : PtAt w C D S F need) (hs : w.heap.size ≤ w'.heap.size) (hp : w'.heap[C.pb]? = w.heap[C.pb]?) (hf : w'.heap[C.fb]? = w.heap[C.fb]?) (hv : ∀ b, C.vv = .map (some b) → w'.heap[b]? = w.heap[b]?) (hd : ∀ b, b < w.heap.size → D b → w'.heap[b]? = w.heap[b]?) : PtAt w' C D S F need :=
 ⟨hp.trans h.prow, h.sto.keep hs hd, h.vars.below hv, h.fresh.below hf, h.dpb, h.dfb, h.dvb⟩
theorem PtAt.below (h : PtAt w C D S F need) (hb : Below w.heap.size w w') : PtAt w' C D S F need :=
 h.keep hb.size (hb.block _ h.plt) (hb.block _ h.fresh.lt) (fun b e => hb.block b (h.vlt b e)) fun b hlt _ => hb.block b hlt
theorem PtAt.cells (h : PtAt w C D S F need) : w.cell? ⟨C.pb, 0, none⟩ = some (.pointer (some ⟨C.p, 0, none⟩)) ∧ w.cell? ⟨C.pb, 1, none⟩ = some C.vv ∧ w.cell? ⟨C.pb, 2, none⟩ = some (.map (some C.fb)) ∧ w.cell? ⟨C.pb, 3, none⟩ = some (.int .i64 need) := row4 h.prow
theorem PtAt.setNeed (h : PtAt w C D S F need) (x : Int) : PtAt (w.setCell ⟨C.pb, 3, none⟩ (.int .i64 x)) C D S F x ∧ Keeps w (w.setCell ⟨C.pb, 3, none⟩ (.int .i64 x)) (fun b => b = C.pb ∨ b = C.fb) := by
 have keep : ∀ b, b ≠ C.pb → (w.setCell ⟨C.pb, 3, none⟩ (.int .i64 x)).heap[b]? = w.heap[b]? := fun b hb => Below.heap_setCell _ _ _ _ hb
 have hs : (w.setCell ⟨C.pb, 3, none⟩ (.int .i64 x)).heap.size = w.heap.size := by simp [World.setCell]
 refine ⟨⟨?_, h.sto.keep (by omega) fun b _ hb => keep b fun e => h.dpb (e ▸ hb), h.vars.below fun b e => keep b (h.pv b e).symm, h.fresh.below (keep _ h.pf.symm), h.dpb, h.dfb, h.dvb⟩, rfl, rfl, rfl, by omega, fun b _ hb => keep b fun e => hb (.inl e)⟩; have := heap_setCell_same w C.pb 3 _ _ (.int .i64 x) h.prow
 simpa using this
theorem PtAt.newFresh (h : PtAt w C D S F need) {F' : List (Int × Int)} (hg : w.grownBy w' (some C.fb)) (hm : IMapB w' C.fb F') : PtAt w' C D S F' need ∧ Keeps w w' (fun b => b = C.pb ∨ b = C.fb) := by
 have keep : ∀ b, b < w.heap.size → b ≠ C.fb → w'.heap[b]? = w.heap[b]? := fun b hlt hb => hg.block b hlt fun e => hb (Option.some.inj e)
 exact ⟨⟨(keep _ h.plt h.pf).trans h.prow, h.sto.keep hg.size fun b hlt hb => keep b hlt fun e => h.dfb (e ▸ hb), h.vars.below fun b e => keep b (h.vlt b e) (h.dvb b e).2, hm, h.dpb, h.dfb, h.dvb⟩, hg.os, hg.tape, hg.output, hg.size, fun b hlt hb => keep b hlt fun e => hb (.inr e)⟩
end
def told (C : PtC) (n : Int) : Option Int := mget C.M n
abbrev PtM (C : PtC) (b : Nat) : Prop := b = C.pb ∨ b = C.fb
def CntPost8 (C : PtC) (D : Nat → Prop) (S : Sto) (r : Bool × Nat × List (Int × Int)) (w : World) (e : Ending) (w' : World) : Prop := e = .returned (.bool r.1) ∧ PtAt w' C D S r.2.2 r.2.1 ∧ Keeps w w' (PtM C)
theorem cnt_fin {C : PtC} {D : Nat → Prop} {S : Sto} {r r' : Bool × Nat × List (Int × Int)} {w w' : World} {b : Bool} (h : r = r') (hb : r'.1 = b) (hp : PtAt w' C D S r'.2.2 r'.2.1) (hk : Keeps w w' (PtM C)) : CntPost8 C D S r w (.returned (.bool b)) w' := by
 subst h hb; exact ⟨rfl, hp, hk⟩
def CntRel8 (C : PtC) (D : Nat → Prop) (S : Sto) (c : Nat) (F : List (Int × Int)) (ts : List Tm) (w : World) (vi : Value) (wr : World) : Prop :=
 ∃ q : Nat, q ≤ ts.length ∧ vi = .int .i64 q ∧ (cntL (told C) S.cells.length c F (ts.take q)).1 = true ∧ PtAt wr C D S (cntL (told C) S.cells.length c F (ts.take q)).2.2 (cntL (told C) S.cells.length c F (ts.take q)).2.1 ∧ Keeps w wr (PtM C)
theorem pt_count (C : PtC) (D : Nat → Prop) (S : Sto) (N : Nat) : ∀ (t : Tm) (v : Value) (P : Nat → Prop) (F : List (Int × Int)) (c : Nat) (w : World), t.size ≤ N → c + t.size ≤ 1000000000 → mayT t = true → PtAt w C D S F c → IsTm w P v t → (∀ b, P b → ¬ PtM C b) →
 Calls Try.prog 42 #[.pointer (some ⟨C.pb, 0, none⟩), v] w (CntPost8 C D S (cntT (told C) S.cells.length c F t) w) := by
 induction N with
 | zero => intro t v P F c w hN; have := size_pos t; omega
 | succ N ih =>
   intro t v P F c w hN hM hmy hp h1 hP; have IH := Lib.hid ih; obtain ⟨P', h1, hP, hlow⟩ : ∃ P' : Nat → Prop, IsTm w P' v t ∧ (∀ b, P' b → ¬ PtM C b) ∧ ∀ b, P' b → b < w.heap.size := ⟨_, h1.lt, fun b h => hP b h.1, fun b h => h.2⟩; obtain ⟨a, cap, rfl⟩ := h1.form; have hb0 := below_new w (rowT t a cap); have hz0 : (w.alloc (rowT t a cap)).heap.size = w.heap.size + 1 := by simp
   have hrow : (w.alloc (rowT t a cap)).heap[w.heap.size]? = some (rowT t a cap) := heap_alloc_new w _; obtain ⟨x0, x1, x2, x3⟩ := row4 hrow; have HP := Lib.hid hP; have HLOW := Lib.hid hlow; have H1 := Lib.hid h1; have HB := Lib.hid hb0; have HZ := Lib.hid hz0; have HR := Lib.hid hrow; have HPT := Lib.hid (hp.below hb0); have HPL := Lib.hid (show C.pb < w.heap.size from hp.plt); have HFL := Lib.hid (show C.fb < w.heap.size from hp.fresh.lt); have HMY := Lib.hid hmy; have HN := Lib.hid hN; have HM := Lib.hid hM; clear ih h1 hb0 hz0 hrow hp hP hlow hN hM
   by_cases k1 : t.k = 1
   ·have b1 : (t.k == 1) = true := by simp [k1]
    have hr := cntT_var (told := told C) (N := S.cells.length) (c := c) (F := F) k1; have h0 : t.args.length = 0 := by rw [may_var hmy k1]; rfl
    have H0 := Lib.hid h0; clear k1 hmy h0; rcases hMn : mget C.M t.n with _ | y
    ·have hMt : told C t.n = none := hMn
     simp only [hMt] at hr; rcases hFn : mget F t.n with _ | y
     ·simp only [hFn] at hr
      have HRS := Lib.hid hr; have HMN := Lib.hid hMn; have HFN := Lib.hid hFn; clear hr hMn hMt hFn
      go_enter Try.func42, Try.ntmps42
      go_wp2; refine wp_region_rest (by kernel_rfl) ?_; have hdr : Below w.heap.size w (w.alloc (rowT t a cap)).drew := HB.out.drew; replace HR : Hid ((w.alloc (rowT t a cap)).drew.heap[w.heap.size]? = some (rowT t a cap)) := HR; replace HZ : Hid ((w.alloc (rowT t a cap)).drew.heap.size = w.heap.size + 1) := HZ; replace HPT := Lib.hid (HPT.out.below (Below.refl (w.alloc (rowT t a cap)).heap.size (w.alloc (rowT t a cap))).drew); replace HB := Lib.hid hdr; clear hdr x0 x1 x2 x3; generalize (w.alloc (rowT t a cap)).drew = W0 at *; obtain ⟨c0, c1, c2, c3⟩ := HPT.out.cells; obtain ⟨x0, x1, x2, x3⟩ := row4 HR.out; refine rest_chainP (fun u => u = W0) 0 12 (.soft 0 (.soft 1 (.soft 2 (.soft 3 (.soft 4 (.soft 5 (.soft 6 (.soft 7 (.soft 8 (.soft 9 (.soft 10 (.soft 11 .nil)))))))))))) (.soft _ (.soft _ (.soft _ (.soft _ (.soft _ (.soft _ (.soft _ (.soft _ (.soft _ (.soft _ (.soft _ (.soft _ .nil)))))))))))) ⟨rfl, ⟨rfl, ⟨rfl, ⟨rfl, ⟨rfl, ⟨rfl, ⟨rfl, ⟨rfl, ⟨rfl, ⟨rfl, ⟨rfl, ⟨rfl, trivial⟩⟩⟩⟩⟩⟩⟩⟩⟩⟩⟩⟩ (by kernel_rfl) (by kernel_rfl) (by kernel_rfl) (by kernel_rfl) (.inl rfl) rfl ?_; refine cS (a1 := ?ma1) ?mh1 ?mr1
      case mh1 =>
       intro u hu E hE; subst hu; go_wp2; rfl
      refine chainP_nck _ _ rfl rfl rfl ?_; simp only [Act.put, zA, zB, zC, zD, zE, zF, zG, Nat.reduceAdd]; refine cS (a1 := ?ma2) ?mh2 ?mr2
      case mh2 =>
       intro u hu E hE; subst hu; go_wp2; rfl
      refine cS (a1 := ?ma3) ?mh3 ?mr3
      case mh3 =>
       intro u hu E hE; subst hu; go_wp2; rfl
      refine cS (a1 := ?ma4) ?mh4 ?mr4
      case mh4 =>
       intro u hu E hE; subst hu; go_wp2; rfl
      refine cS (a1 := ?ma5) ?mh5 ?mr5
      case mh5 =>
       intro u hu E hE; subst hu; go_wp2; rfl
      refine cS (a1 := ?ma6) ?mh6 ?mr6
      case mh6 =>
       intro u hu E hE; subst hu; refine wpList_vmap_ok rfl 53 (.tmp 18) (.tmp 20) rfl _ _ _ Try.underlying53 Try.underlying2 C.vv C.M rfl HPT.out.vars t.n rfl (fun _ => by kernel_rfl) ?_; rw [HMN.out]; go_wp2; rfl
      refine cS (a1 := ?ma7) ?mh7 ?mr7
      case mh7 =>
       intro u hu E hE; subst hu; go_wp2; rfl
      refine cS (a1 := ?ma8) ?mh8 ?mr8
      case mh8 =>
       intro u hu E hE; subst hu; go_wp2; rfl
      refine cS (a1 := ?ma9) ?mh9 ?mr9
      case mh9 =>
       intro u hu E hE; subst hu; go_wp2; rfl
      refine cS (a1 := ?ma10) ?mh10 ?mr10
      case mh10 =>
       intro u hu E hE; subst hu; go_wp2; rfl
      refine cS (a1 := ?ma11) ?mh11 ?mr11
      case mh11 =>
       intro u hu E hE; subst hu; go_wp2; rfl
      refine chainP_nil ?_; refine rest_end (by decide) ?_; go_wp2; refine wp_region_rest (by kernel_rfl) ?_; have hdr : Below w.heap.size w W0.drew := HB.out.drew; replace HR : Hid (W0.drew.heap[w.heap.size]? = some (rowT t a cap)) := HR; replace HZ : Hid (W0.drew.heap.size = w.heap.size + 1) := HZ; replace HPT := Lib.hid (HPT.out.below (Below.refl W0.heap.size W0).drew); replace HB := Lib.hid hdr; clear hdr x0 x1 x2 x3 c0 c1 c2 c3; generalize W0.drew = W1 at *; obtain ⟨c0, c1, c2, c3⟩ := HPT.out.cells; obtain ⟨x0, x1, x2, x3⟩ := row4 HR.out; refine rest_chainP (fun u => u = W1) 0 12 (.soft 0 (.soft 1 (.soft 2 (.soft 3 (.soft 4 (.soft 5 (.soft 6 (.soft 7 (.soft 8 (.soft 9 (.soft 10 (.soft 11 .nil)))))))))))) (.soft _ (.soft _ (.soft _ (.soft _ (.soft _ (.soft _ (.soft _ (.soft _ (.soft _ (.soft _ (.soft _ (.soft _ .nil)))))))))))) ⟨rfl, ⟨rfl, ⟨rfl, ⟨rfl, ⟨rfl, ⟨rfl, ⟨rfl, ⟨rfl, ⟨rfl, ⟨rfl, ⟨rfl, ⟨rfl, trivial⟩⟩⟩⟩⟩⟩⟩⟩⟩⟩⟩⟩ (by kernel_rfl) (by kernel_rfl) (by kernel_rfl) (by kernel_rfl) (.inl rfl) rfl ?_; refine cS (a1 := ?ma12) ?mh12 ?mr12
      case mh12 =>
       intro u hu E hE; subst hu; go_wp2; rfl
      refine chainP_nck _ _ rfl rfl rfl ?_; simp only [Act.put, zA, zB, zC, zD, zE, zF, zG, Nat.reduceAdd]; refine cS (a1 := ?ma13) ?mh13 ?mr13
      case mh13 =>
       intro u hu E hE; subst hu; go_wp2; rfl
      refine cS (a1 := ?ma14) ?mh14 ?mr14
      case mh14 =>
       intro u hu E hE; subst hu; go_wp2; rfl
      refine cS (a1 := ?ma15) ?mh15 ?mr15
      case mh15 =>
       intro u hu E hE; subst hu; go_wp2; rfl
      refine cS (a1 := ?ma16) ?mh16 ?mr16
      case mh16 =>
       intro u hu E hE; subst hu; go_wp2; rfl
      refine cS (a1 := ?ma17) ?mh17 ?mr17
      case mh17 =>
       intro u hu E hE; subst hu; refine wpList_imap_ok rfl 53 (.tmp 35) (.tmp 37) rfl _ _ _ Try.underlying53 Try.underlying2 C.fb F rfl HPT.out.fresh.imap t.n rfl (fun _ => by kernel_rfl) ?_; rw [HFN.out]; go_wp2; rfl
      refine cS (a1 := ?ma18) ?mh18 ?mr18
      case mh18 =>
       intro u hu E hE; subst hu; go_wp2; rfl
      refine cS (a1 := ?ma19) ?mh19 ?mr19
      case mh19 =>
       intro u hu E hE; subst hu; go_wp2; rfl
      refine cS (a1 := ?ma20) ?mh20 ?mr20
      case mh20 =>
       intro u hu E hE; subst hu; go_wp2; rfl
      refine cS (a1 := ?ma21) ?mh21 ?mr21
      case mh21 =>
       intro u hu E hE; subst hu; go_wp2; rfl
      refine cS (a1 := ?ma22) ?mh22 ?mr22
      case mh22 =>
       intro u hu E hE; subst hu; go_wp2; rfl
      refine chainP_nil ?_; refine rest_end (by decide) ?_; go_wp2; refine wp_region_rest (by kernel_rfl) ?_; have hdr : Below w.heap.size w W1.drew := HB.out.drew; replace HR : Hid (W1.drew.heap[w.heap.size]? = some (rowT t a cap)) := HR; replace HZ : Hid (W1.drew.heap.size = w.heap.size + 1) := HZ; replace HPT := Lib.hid (HPT.out.below (Below.refl W1.heap.size W1).drew); replace HB := Lib.hid hdr; clear hdr x0 x1 x2 x3 c0 c1 c2 c3; generalize W1.drew = W2 at *; obtain ⟨c0, c1, c2, c3⟩ := HPT.out.cells; obtain ⟨x0, x1, x2, x3⟩ := row4 HR.out; refine rest_chainP (fun u => u = W2) 0 6 (.soft 0 (.soft 1 (.soft 2 (.soft 3 (.soft 4 (.soft 5 .nil)))))) (.soft _ (.soft _ (.soft _ (.soft _ (.soft _ (.soft _ .nil)))))) ⟨rfl, ⟨rfl, ⟨rfl, ⟨rfl, ⟨rfl, ⟨rfl, trivial⟩⟩⟩⟩⟩⟩ (by kernel_rfl) (by kernel_rfl) (by kernel_rfl) (by kernel_rfl) (.inr (by kernel_rfl)) rfl ?_; refine cS (a1 := ?ma23) ?mh23 ?mr23
      case mh23 =>
       intro u hu E hE; subst hu; go_wp2; rfl
      refine chainP_nck _ _ rfl rfl rfl ?_; simp only [Act.put, zA, zB, zC, zD, zE, zF, zG, Nat.reduceAdd]; refine cS (a1 := ?ma24) ?mh24 ?mr24
      case mh24 =>
       intro u hu E hE; subst hu; go_wp2; rfl
      refine cS (a1 := ?ma25) ?mh25 ?mr25
      case mh25 =>
       intro u hu E hE; subst hu; go_wp2; rfl
      refine cS (a1 := ?ma26) ?mh26 ?mr26
      case mh26 =>
       intro u hu E hE; subst hu; go_wp2; rfl
      refine cS (a1 := ?ma27) ?mh27 ?mr27
      case mh27 =>
       intro u hu E hE; subst hu; go_wp2; rfl
      refine chainP_nil ?_; refine rest_lineL 6 7 [_] rfl (by kernel_rfl) (by decide) (by decide) (by kernel_rfl) ?_; refine wpList_imapb_set rfl 53 (.tmp 45) (.tmp 47) (.const (.int .i64 (-1))) rfl _ _ _ Try.underlying53 Try.underlying2 C.fb F rfl HPT.out.fresh t.n rfl (-1) rfl ?_; intro w3 hi3 hg3; rw [mset_new HFN.out] at hi3; have h3 := HPT.out.newFresh hg3 hi3; have hr3 := (h3.2.block w.heap.size (by have := HZ.out; omega) (fun h => by rcases h with h | h <;> (have := HPL.out; have := HFL.out; omega))).trans HR.out; have HPT3 := Lib.hid h3.1; have HK3 := Lib.hid ((Keeps.of (M := PtM C) HB.out).trans h3.2 fun b h => .inl h); have HR3 := Lib.hid hr3; have h4 := h3.1.setNeed ((c : Int) + 1); have hr4 := (h4.2.block w.heap.size (by have := HZ.out; have := hg3.size; omega) (fun h => by rcases h with h | h <;> (have := HPL.out; have := HFL.out; omega))).trans hr3; have HPT4 := Lib.hid h4.1; have HK4 := Lib.hid (((Keeps.of (M := PtM C) HB.out).trans h3.2 fun b h => .inl h).trans h4.2 fun b h => .inl h); have HR4 := Lib.hid hr4; have hcc : (c : Int) ≤ 1000000000 := by have := HM.out; omega
      have hcc0 : (0 : Int) ≤ (c : Int) := by omega
      clear h3 hr3 hi3 hg3 h4 hr4 x0 x1 x2 x3 c0 c1 c2 c3; obtain ⟨c0, c1, c2, c3⟩ := HPT3.out.cells; have z3 := frozen_of_row w3 C.pb 3 _ _ HPT3.out.prow; refine then_rest (rest_end (by decide) ?_)
      go_upto_region 10 with fail
      clear c0 c1 c2 c3 z3; generalize w3.setCell ⟨C.pb, 3, none⟩ (.int .i64 ((c : Int) + 1)) = w4 at *; obtain ⟨x0, x1, x2, x3⟩ := row4 HR4.out; rw [H0.out] at x3; have HP4 : Hid (PtAt w4 C D S (F ++ [(t.n, -1)]) ((c + 1 : Nat) : Int)) := Lib.hid (by have := HPT4.out; rw [show ((c + 1 : Nat) : Int) = (c : Int) + 1 from by omega]; exact this); go_wp2; refine wp_loop_rounds 1 ?_; rw [rounds_succ]; go_wp2; go_ret; exact cnt_fin HRS.out rfl HP4.out HK4.out
     ·simp only [hFn] at hr
      have HRS := Lib.hid hr; have HMN := Lib.hid hMn; have HFN := Lib.hid hFn; clear hr hMn hMt hFn
      go_enter Try.func42, Try.ntmps42
      go_wp2; refine wp_region_rest (by kernel_rfl) ?_; have hdr : Below w.heap.size w (w.alloc (rowT t a cap)).drew := HB.out.drew; replace HR : Hid ((w.alloc (rowT t a cap)).drew.heap[w.heap.size]? = some (rowT t a cap)) := HR; replace HZ : Hid ((w.alloc (rowT t a cap)).drew.heap.size = w.heap.size + 1) := HZ; replace HPT := Lib.hid (HPT.out.below (Below.refl (w.alloc (rowT t a cap)).heap.size (w.alloc (rowT t a cap))).drew); replace HB := Lib.hid hdr; clear hdr x0 x1 x2 x3; generalize (w.alloc (rowT t a cap)).drew = W0 at *; obtain ⟨c0, c1, c2, c3⟩ := HPT.out.cells; obtain ⟨x0, x1, x2, x3⟩ := row4 HR.out; refine rest_chainP (fun u => u = W0) 0 12 (.soft 0 (.soft 1 (.soft 2 (.soft 3 (.soft 4 (.soft 5 (.soft 6 (.soft 7 (.soft 8 (.soft 9 (.soft 10 (.soft 11 .nil)))))))))))) (.soft _ (.soft _ (.soft _ (.soft _ (.soft _ (.soft _ (.soft _ (.soft _ (.soft _ (.soft _ (.soft _ (.soft _ .nil)))))))))))) ⟨rfl, ⟨rfl, ⟨rfl, ⟨rfl, ⟨rfl, ⟨rfl, ⟨rfl, ⟨rfl, ⟨rfl, ⟨rfl, ⟨rfl, ⟨rfl, trivial⟩⟩⟩⟩⟩⟩⟩⟩⟩⟩⟩⟩ (by kernel_rfl) (by kernel_rfl) (by kernel_rfl) (by kernel_rfl) (.inl rfl) rfl ?_; refine cS (a1 := ?ma28) ?mh28 ?mr28
      case mh28 =>
       intro u hu E hE; subst hu; go_wp2; rfl
      refine chainP_nck _ _ rfl rfl rfl ?_; simp only [Act.put, zA, zB, zC, zD, zE, zF, zG, Nat.reduceAdd]; refine cS (a1 := ?ma29) ?mh29 ?mr29
      case mh29 =>
       intro u hu E hE; subst hu; go_wp2; rfl
      refine cS (a1 := ?ma30) ?mh30 ?mr30
      case mh30 =>
       intro u hu E hE; subst hu; go_wp2; rfl
      refine cS (a1 := ?ma31) ?mh31 ?mr31
      case mh31 =>
       intro u hu E hE; subst hu; go_wp2; rfl
      refine cS (a1 := ?ma32) ?mh32 ?mr32
      case mh32 =>
       intro u hu E hE; subst hu; go_wp2; rfl
      refine cS (a1 := ?ma33) ?mh33 ?mr33
      case mh33 =>
       intro u hu E hE; subst hu; refine wpList_vmap_ok rfl 53 (.tmp 18) (.tmp 20) rfl _ _ _ Try.underlying53 Try.underlying2 C.vv C.M rfl HPT.out.vars t.n rfl (fun _ => by kernel_rfl) ?_; rw [HMN.out]; go_wp2; rfl
      refine cS (a1 := ?ma34) ?mh34 ?mr34
      case mh34 =>
       intro u hu E hE; subst hu; go_wp2; rfl
      refine cS (a1 := ?ma35) ?mh35 ?mr35
      case mh35 =>
       intro u hu E hE; subst hu; go_wp2; rfl
      refine cS (a1 := ?ma36) ?mh36 ?mr36
      case mh36 =>
       intro u hu E hE; subst hu; go_wp2; rfl
      refine cS (a1 := ?ma37) ?mh37 ?mr37
      case mh37 =>
       intro u hu E hE; subst hu; go_wp2; rfl
      refine cS (a1 := ?ma38) ?mh38 ?mr38
      case mh38 =>
       intro u hu E hE; subst hu; go_wp2; rfl
      refine chainP_nil ?_; refine rest_end (by decide) ?_; go_wp2; refine wp_region_rest (by kernel_rfl) ?_; have hdr : Below w.heap.size w W0.drew := HB.out.drew; replace HR : Hid (W0.drew.heap[w.heap.size]? = some (rowT t a cap)) := HR; replace HZ : Hid (W0.drew.heap.size = w.heap.size + 1) := HZ; replace HPT := Lib.hid (HPT.out.below (Below.refl W0.heap.size W0).drew); replace HB := Lib.hid hdr; clear hdr x0 x1 x2 x3 c0 c1 c2 c3; generalize W0.drew = W1 at *; obtain ⟨c0, c1, c2, c3⟩ := HPT.out.cells; obtain ⟨x0, x1, x2, x3⟩ := row4 HR.out; refine rest_chainP (fun u => u = W1) 0 12 (.soft 0 (.soft 1 (.soft 2 (.soft 3 (.soft 4 (.soft 5 (.soft 6 (.soft 7 (.soft 8 (.soft 9 (.soft 10 (.soft 11 .nil)))))))))))) (.soft _ (.soft _ (.soft _ (.soft _ (.soft _ (.soft _ (.soft _ (.soft _ (.soft _ (.soft _ (.soft _ (.soft _ .nil)))))))))))) ⟨rfl, ⟨rfl, ⟨rfl, ⟨rfl, ⟨rfl, ⟨rfl, ⟨rfl, ⟨rfl, ⟨rfl, ⟨rfl, ⟨rfl, ⟨rfl, trivial⟩⟩⟩⟩⟩⟩⟩⟩⟩⟩⟩⟩ (by kernel_rfl) (by kernel_rfl) (by kernel_rfl) (by kernel_rfl) (.inl rfl) rfl ?_; refine cS (a1 := ?ma39) ?mh39 ?mr39
      case mh39 =>
       intro u hu E hE; subst hu; go_wp2; rfl
      refine chainP_nck _ _ rfl rfl rfl ?_; simp only [Act.put, zA, zB, zC, zD, zE, zF, zG, Nat.reduceAdd]; refine cS (a1 := ?ma40) ?mh40 ?mr40
      case mh40 =>
       intro u hu E hE; subst hu; go_wp2; rfl
      refine cS (a1 := ?ma41) ?mh41 ?mr41
      case mh41 =>
       intro u hu E hE; subst hu; go_wp2; rfl
      refine cS (a1 := ?ma42) ?mh42 ?mr42
      case mh42 =>
       intro u hu E hE; subst hu; go_wp2; rfl
      refine cS (a1 := ?ma43) ?mh43 ?mr43
      case mh43 =>
       intro u hu E hE; subst hu; go_wp2; rfl
      refine cS (a1 := ?ma44) ?mh44 ?mr44
      case mh44 =>
       intro u hu E hE; subst hu; refine wpList_imap_ok rfl 53 (.tmp 35) (.tmp 37) rfl _ _ _ Try.underlying53 Try.underlying2 C.fb F rfl HPT.out.fresh.imap t.n rfl (fun _ => by kernel_rfl) ?_; rw [HFN.out]; go_wp2; rfl
      refine cS (a1 := ?ma45) ?mh45 ?mr45
      case mh45 =>
       intro u hu E hE; subst hu; go_wp2; rfl
      refine cS (a1 := ?ma46) ?mh46 ?mr46
      case mh46 =>
       intro u hu E hE; subst hu; go_wp2; rfl
      refine cS (a1 := ?ma47) ?mh47 ?mr47
      case mh47 =>
       intro u hu E hE; subst hu; go_wp2; rfl
      refine cS (a1 := ?ma48) ?mh48 ?mr48
      case mh48 =>
       intro u hu E hE; subst hu; go_wp2; rfl
      refine cS (a1 := ?ma49) ?mh49 ?mr49
      case mh49 =>
       intro u hu E hE; subst hu; go_wp2; rfl
      refine chainP_nil ?_; refine rest_end (by decide) ?_; go_wp2; go_ret; exact cnt_fin HRS.out rfl HPT.out (Keeps.of HB.out)
    ·have hMt : told C t.n = some y := hMn
     simp only [hMt] at hr; have HRS := Lib.hid hr; have HMN := Lib.hid hMn; clear hr hMn hMt
     go_enter Try.func42, Try.ntmps42
     go_wp2; refine wp_region_rest (by kernel_rfl) ?_; have hdr : Below w.heap.size w (w.alloc (rowT t a cap)).drew := HB.out.drew; replace HR : Hid ((w.alloc (rowT t a cap)).drew.heap[w.heap.size]? = some (rowT t a cap)) := HR; replace HZ : Hid ((w.alloc (rowT t a cap)).drew.heap.size = w.heap.size + 1) := HZ; replace HPT := Lib.hid (HPT.out.below (Below.refl (w.alloc (rowT t a cap)).heap.size (w.alloc (rowT t a cap))).drew); replace HB := Lib.hid hdr; clear hdr x0 x1 x2 x3; generalize (w.alloc (rowT t a cap)).drew = W0 at *; obtain ⟨c0, c1, c2, c3⟩ := HPT.out.cells; obtain ⟨x0, x1, x2, x3⟩ := row4 HR.out; refine rest_chainP (fun u => u = W0) 0 12 (.soft 0 (.soft 1 (.soft 2 (.soft 3 (.soft 4 (.soft 5 (.soft 6 (.soft 7 (.soft 8 (.soft 9 (.soft 10 (.soft 11 .nil)))))))))))) (.soft _ (.soft _ (.soft _ (.soft _ (.soft _ (.soft _ (.soft _ (.soft _ (.soft _ (.soft _ (.soft _ (.soft _ .nil)))))))))))) ⟨rfl, ⟨rfl, ⟨rfl, ⟨rfl, ⟨rfl, ⟨rfl, ⟨rfl, ⟨rfl, ⟨rfl, ⟨rfl, ⟨rfl, ⟨rfl, trivial⟩⟩⟩⟩⟩⟩⟩⟩⟩⟩⟩⟩ (by kernel_rfl) (by kernel_rfl) (by kernel_rfl) (by kernel_rfl) (.inl rfl) rfl ?_; refine cS (a1 := ?ma50) ?mh50 ?mr50
     case mh50 =>
      intro u hu E hE; subst hu; go_wp2; rfl
     refine chainP_nck _ _ rfl rfl rfl ?_; simp only [Act.put, zA, zB, zC, zD, zE, zF, zG, Nat.reduceAdd]; refine cS (a1 := ?ma51) ?mh51 ?mr51
     case mh51 =>
      intro u hu E hE; subst hu; go_wp2; rfl
     refine cS (a1 := ?ma52) ?mh52 ?mr52
     case mh52 =>
      intro u hu E hE; subst hu; go_wp2; rfl
     refine cS (a1 := ?ma53) ?mh53 ?mr53
     case mh53 =>
      intro u hu E hE; subst hu; go_wp2; rfl
     refine cS (a1 := ?ma54) ?mh54 ?mr54
     case mh54 =>
      intro u hu E hE; subst hu; go_wp2; rfl
     refine cS (a1 := ?ma55) ?mh55 ?mr55
     case mh55 =>
      intro u hu E hE; subst hu; refine wpList_vmap_ok rfl 53 (.tmp 18) (.tmp 20) rfl _ _ _ Try.underlying53 Try.underlying2 C.vv C.M rfl HPT.out.vars t.n rfl (fun _ => by kernel_rfl) ?_; rw [HMN.out]; go_wp2; rfl
     refine cS (a1 := ?ma56) ?mh56 ?mr56
     case mh56 =>
      intro u hu E hE; subst hu; go_wp2; rfl
     refine cS (a1 := ?ma57) ?mh57 ?mr57
     case mh57 =>
      intro u hu E hE; subst hu; go_wp2; rfl
     refine cS (a1 := ?ma58) ?mh58 ?mr58
     case mh58 =>
      intro u hu E hE; subst hu; go_wp2; rfl
     refine cS (a1 := ?ma59) ?mh59 ?mr59
     case mh59 =>
      intro u hu E hE; subst hu; go_wp2; rfl
     refine cS (a1 := ?ma60) ?mh60 ?mr60
     case mh60 =>
      intro u hu E hE; subst hu; go_wp2; rfl
     refine chainP_nil ?_; refine rest_end (by decide) ?_
     go_wp2_with fail
     refine (sto_there W0 HPT.out.sto y).mono ?_; rintro e1 w1 ⟨rfl, rfl⟩; go_wp2; go_ret; exact cnt_fin HRS.out rfl HPT.out (Keeps.of HB.out)
   ·have b1 : (t.k == 1) = false := by simp [k1]
    have hr := cntT_not (told := told C) (N := S.cells.length) (c := c) (F := F) k1; rw [hr]; have hlen : t.args.length ≤ 1000000000 := by have := len_le t.args; have := HM.out; obtain ⟨k, n, s, ar⟩ := t; simp only [Tm.size, Tm.args] at *; omega
    have HSZ : Hid (t.size = sizeL t.args + 1) := Lib.hid (by obtain ⟨k, n, s, ar⟩ := t; simp [Tm.size, Tm.args]); have H1A := Lib.hid H1.out.args; have HMA : Hid (∀ x ∈ t.args, mayT x = true) := Lib.hid fun x hx => may_arg HMY.out hx
    have h4 := HPT.out.setNeed ((c : Int) + 1); have hr4 := (h4.2.block w.heap.size (by have := HZ.out; omega) (fun h => by rcases h with h | h <;> (have := HPL.out; have := HFL.out; omega))).trans HR.out; have hcc : (c : Int) ≤ 1000000000 := by have := HM.out; omega
    have hcc0 : (0 : Int) ≤ (c : Int) := by omega
    have HPT4 : Hid (PtAt ((w.alloc (rowT t a cap)).setCell ⟨C.pb, 3, none⟩ (.int .i64 ((c : Int) + 1))) C D S F ((c + 1 : Nat) : Int)) := Lib.hid (by have := h4.1; rw [show ((c + 1 : Nat) : Int) = (c : Int) + 1 from by omega]; exact this); have HK4 := Lib.hid ((Keeps.of (M := PtM C) HB.out).trans h4.2 fun b h => .inl h); have HR4 := Lib.hid hr4; obtain ⟨c0, c1, c2, c3⟩ := HPT.out.cells; have z3 := frozen_of_row _ C.pb 3 _ _ HPT.out.prow; clear hr k1 hmy h4 hr4
    go_enter Try.func42, Try.ntmps42
    go_upto_region 10 with fail
    clear c0 c1 c2 c3 z3 x0 x1 x2 x3; generalize (w.alloc (rowT t a cap)).setCell ⟨C.pb, 3, none⟩ (.int .i64 ((c : Int) + 1)) = W1 at *; obtain ⟨x0, x1, x2, x3⟩ := row4 HR4.out; have hst : CntRel8 C D S (c + 1) F t.args w (.int .i64 ((0 : Nat) : Int)) W1 := ⟨0, by omega, rfl, by rw [List.take_zero, cntL_nil], by rw [List.take_zero, cntL_nil]; exact HPT4.out, HK4.out⟩; have HST := Lib.hid hst; clear hst HPT HR HB HZ HR4; obtain ⟨k, n, s, ts⟩ := t; simp only [rowT, Tm.k, Tm.n, Tm.s, Tm.args] at *; go_wp2
    go_loopw [58] (fun vi wr => CntRel8 C D S (c + 1) F ts w vi wr) (fun vi _ => ts.length - (intOf vi).toNat)
    case atStart => exact HST.out
    case round =>
     obtain ⟨q, hq, rfl, hok, hpt, hk⟩ := hrel; have HOK := Lib.hid hok; have HP1 := Lib.hid hpt; have HK1 := Lib.hid hk; clear hok hpt hk HST x0 x1 x2 x3
     by_cases hql : q < ts.length
     ·obtain ⟨g1, o1, rfl, p1, m1⟩ := (H1A.out.imp (w' := wr) (fun _ h => h) fun b hb hlt => HK1.out.block b hlt (HP.out b hb)).at q hql
      obtain ⟨c1, d1, x10, x11, x12, x13, i1, l1⟩ := m1.read; have h1s := size_mem hql; have HX := Lib.hid (show ts[q].size ≤ N by have := HN.out; have := HSZ.out; omega); have HMX := Lib.hid (HMA.out ts[q] (List.getElem_mem hql)); have HNX := Lib.hid (cntL_take hql HOK.out)
      have HLX : Hid ((cntL (told C) S.cells.length (c + 1) F (ts.take q)).2.1 + ts[q].size ≤ 1000000000) := Lib.hid (by
       have h3 := cntL_le (told C) S.cells.length (ts.take q) (c + 1) F
       have h4 : sizeL (ts.take q) + ts[q].size ≤ sizeL ts := by
        have h2 := sizeL_take ts (q + 1); have e : ts.take (q + 1) = ts.take q ++ [ts[q]] := List.take_succ_eq_append_getElem hql; have e2 := sizeL_app (ts.take q) [ts[q]]; rw [← e] at e2; simp only [sizeL] at e2; omega
       have := HM.out; have := HSZ.out; omega)
      have hdt : ts.take (q + 1) ++ ts.drop (q + 1) = ts := List.take_append_drop _ _; have HDT := Lib.hid hdt; have hbx := below_new wr (rowT ts[q] c1 d1); have I1 := Lib.hid (i1.below hbx); have HBX := Lib.hid hbx; have HPX := Lib.hid (HP1.out.below hbx); clear m1 i1 h1s hbx hdt; generalize ts[q] = x at *; have hin : (q : Int) < (ts.length : Int) := by omega
      have hin0 : (0 : Int) ≤ (q : Int) := by omega
      go_wp2_with fail
      refine (IH.out x _ _ _ _ _ HX.out HLX.out HMX.out HPX.out I1.out HP.out).mono ?_; rintro e w9 ⟨rfl, hp9, hk9⟩; rw [← HNX.out] at hp9 ⊢; have HP9 := Lib.hid hp9; have HK9 := Lib.hid ((HK1.out.trans (Keeps.of HBX.out) (M' := PtM C) fun b h => .inl h).trans hk9 fun b h => .inl h); clear hp9 hk9 x10 x11 x12 x13 l1; cases hb : (cntL (told C) S.cells.length (c + 1) F (ts.take (q + 1))).1 with
      | true =>
        have HB1 := Lib.hid hb; clear hb; go_wp2; go_roundw
        case rel => exact ⟨q + 1, by omega, by go_num, HB1.out, HP9.out, HK9.out⟩
        case measure => simp [intOf]; omega
      | false =>
        have hs := cntL_stop (told := told C) (N := S.cells.length) (c := c + 1) (F := F) (l := ts.take (q + 1)) (m := ts.drop (q + 1)) (by rw [hb]; simp); rw [HDT.out] at hs; have HS := Lib.hid hs; have HB1 := Lib.hid hb; clear hb hs; go_wp2; go_ret; exact cnt_fin HS.out HB1.out HP9.out HK9.out
     ·obtain rfl : q = ts.length := by omega
      have hin : decide ((ts.length : Int) < (ts.length : Int)) = false := by simp
      have h8 := HP1.out; have h9 := HOK.out; rw [List.take_length] at h8 h9; have HDF := Lib.hid h8; have HOF := Lib.hid h9; clear h8 h9; go_wp2; go_ret; exact cnt_fin rfl HOF.out HDF.out HK1.out
mutual
def putT (told : Int → Option Int) (T0 : Int) : Nat → List (Int × Int) → Tm → Int × List SCell × List (Int × Int)
 | b, F, .mk k n s a => if k = 1 then
    match told n with
    | some at_ => (at_, [], F)
    | none => match mget F n with
      | some at_ => (at_, [], F)
      | none => ((b : Int), [⟨1, 0, ⟨#[]⟩, [], -1, T0⟩], F ++ [(n, (b : Int))])
   else if k = 4 then ((b : Int), ⟨4, 0, s, (putL told T0 (b + 1) F a).1, -1, T0⟩ :: (putL told T0 (b + 1) F a).2.1, (putL told T0 (b + 1) F a).2.2)
   else ((b : Int), [⟨k, n, s, [], -1, T0⟩], F)
def putL (told : Int → Option Int) (T0 : Int) : Nat → List (Int × Int) → List Tm → List Int × List SCell × List (Int × Int)
 | b, F, [] => ([], [], F)
 | b, F, t :: l => ((putT told T0 b F t).1 :: (putL told T0 (b + (putT told T0 b F t).2.1.length) (putT told T0 b F t).2.2 l).1, (putT told T0 b F t).2.1 ++ (putL told T0 (b + (putT told T0 b F t).2.1.length) (putT told T0 b F t).2.2 l).2.1,
    (putL told T0 (b + (putT told T0 b F t).2.1.length) (putT told T0 b F t).2.2 l).2.2)
end
theorem putT_var {told : Int → Option Int} {T0 : Int} {b : Nat} {F : List (Int × Int)} {t : Tm} (h : t.k = 1) : putT told T0 b F t = match told t.n with
 | some at_ => (at_, [], F)
 | none => match mget F t.n with
   | some at_ => (at_, [], F)
   | none => ((b : Int), [⟨1, 0, ⟨#[]⟩, [], -1, T0⟩], F ++ [(t.n, (b : Int))]) := by
 obtain ⟨k, n, s, a⟩ := t; simp only [Tm.k] at h; simp only [putT, if_pos h]; rfl
theorem putT_comp {told : Int → Option Int} {T0 : Int} {b : Nat} {F : List (Int × Int)} {t : Tm} (h : t.k = 4) :
 putT told T0 b F t = ((b : Int), ⟨4, 0, t.s, (putL told T0 (b + 1) F t.args).1, -1, T0⟩ :: (putL told T0 (b + 1) F t.args).2.1, (putL told T0 (b + 1) F t.args).2.2) := by
 obtain ⟨k, n, s, a⟩ := t; simp only [Tm.k] at h; simp only [putT, if_pos h, if_neg (show ¬ k = 1 by omega)]; rfl
theorem putT_leaf {told : Int → Option Int} {T0 : Int} {b : Nat} {F : List (Int × Int)} {t : Tm} (h1 : t.k ≠ 1) (h : t.k ≠ 4) : putT told T0 b F t = ((b : Int), [⟨t.k, t.n, t.s, [], -1, T0⟩], F) := by
 obtain ⟨k, n, s, a⟩ := t; simp only [Tm.k] at h h1; simp only [putT, if_neg h, if_neg h1]; rfl
theorem putL_snoc (told : Int → Option Int) (T0 : Int) (t : Tm) : ∀ (l : List Tm) (b : Nat) (F : List (Int × Int)),
 putL told T0 b F (l ++ [t]) = ((putL told T0 b F l).1 ++ [(putT told T0 (b + (putL told T0 b F l).2.1.length) (putL told T0 b F l).2.2 t).1], (putL told T0 b F l).2.1 ++ (putT told T0 (b + (putL told T0 b F l).2.1.length) (putL told T0 b F l).2.2 t).2.1, (putT told T0 (b + (putL told T0 b F l).2.1.length) (putL told T0 b F l).2.2 t).2.2)
 | [], b, F => by simp [putL]
 | x :: l, b, F => by
   simp only [List.cons_append, putL, putL_snoc told T0 t l, List.length_append, List.append_assoc, Nat.add_assoc]
theorem putL_take {told : Int → Option Int} {T0 : Int} {b : Nat} {F : List (Int × Int)} {ts : List Tm} {q : Nat} (h : q < ts.length) :
 putL told T0 b F (ts.take (q + 1)) = ((putL told T0 b F (ts.take q)).1 ++ [(putT told T0 (b + (putL told T0 b F (ts.take q)).2.1.length) (putL told T0 b F (ts.take q)).2.2 ts[q]).1], (putL told T0 b F (ts.take q)).2.1 ++ (putT told T0 (b + (putL told T0 b F (ts.take q)).2.1.length) (putL told T0 b F (ts.take q)).2.2 ts[q]).2.1, (putT told T0 (b + (putL told T0 b F (ts.take q)).2.1.length) (putL told T0 b F (ts.take q)).2.2 ts[q]).2.2) := by
 rw [List.take_succ_eq_append_getElem h, putL_snoc]
mutual
theorem putT_top (told : Int → Option Int) (T0 : Int) : ∀ (t : Tm) (b : Nat) (F : List (Int × Int)), ∀ c ∈ (putT told T0 b F t).2.1, c.top = T0
 | .mk k n s a, b, F => by
   by_cases k1 : k = 1
   ·rw [putT_var (t := .mk k n s a) k1]
    cases told (Tm.mk k n s a).n with
    | some x => simp
    | none => cases mget F (Tm.mk k n s a).n <;> simp
   ·by_cases k4 : k = 4
    ·rw [putT_comp (t := .mk k n s a) k4]
     intro c hc; rcases List.mem_cons.1 hc with rfl | hc
     ·rfl
     ·exact putL_top told T0 a _ _ c hc
    ·rw [putT_leaf (t := .mk k n s a) k1 k4]; simp
theorem putL_top (told : Int → Option Int) (T0 : Int) : ∀ (l : List Tm) (b : Nat) (F : List (Int × Int)), ∀ c ∈ (putL told T0 b F l).2.1, c.top = T0
 | [], b, F => by simp [putL]
 | t :: l, b, F => by
   simp only [putL]; intro c hc; rcases List.mem_append.1 hc with hc | hc
   ·exact putT_top told T0 t _ _ c hc
   ·exact putL_top told T0 l _ _ c hc
end
mutual
theorem putT_len (told : Int → Option Int) (T0 : Int) : ∀ (t : Tm) (b : Nat) (F : List (Int × Int)), (putT told T0 b F t).2.1.length ≤ t.size
 | .mk k n s a, b, F => by
   by_cases k1 : k = 1
   ·rw [putT_var (t := .mk k n s a) k1]
    simp only [Tm.size]; cases told (Tm.mk k n s a).n with
    | some x => simp
    | none => cases mget F (Tm.mk k n s a).n <;> simp
   ·by_cases k4 : k = 4
    ·rw [putT_comp (t := .mk k n s a) k4]
     have := putL_len told T0 a (b + 1) F; simp only [Tm.size, Tm.args, List.length_cons]; omega
    ·rw [putT_leaf (t := .mk k n s a) k1 k4]; simp [Tm.size]
theorem putL_len (told : Int → Option Int) (T0 : Int) : ∀ (l : List Tm) (b : Nat) (F : List (Int × Int)), (putL told T0 b F l).2.1.length ≤ sizeL l
 | [], b, F => by simp [putL]
 | t :: l, b, F => by
   simp only [putL, sizeL, List.length_append]; have h1 := putT_len told T0 t b F; have := putL_len told T0 l (b + (putT told T0 b F t).2.1.length) (putT told T0 b F t).2.2; omega
end
theorem putL_len1 (told : Int → Option Int) (T0 : Int) : ∀ (l : List Tm) (b : Nat) (F : List (Int × Int)), (putL told T0 b F l).1.length = l.length
 | [], b, F => by simp [putL]
 | t :: l, b, F => by simp [putL, putL_len1 told T0 l]
def plusS (S : Sto) (l : List SCell) : Sto := ⟨S.room, S.cells ++ l, S.bonds⟩
theorem plus_nil (S : Sto) : plusS S [] = S := by simp [plusS]
theorem plus_plus (S : Sto) (l m : List SCell) : plusS (plusS S l) m = plusS S (l ++ m) := by simp [plusS]
theorem last_app {T0 : Int} : ∀ {m l : List SCell}, lastTop l = T0 → (∀ c ∈ m, c.top = T0) → lastTop (l ++ m) = T0 := by
 intro m l hl hm; rcases nil_or_snoc m with rfl | ⟨m', c, rfl⟩
 ·simpa using hl
 ·unfold lastTop
  rw [← List.append_assoc, List.getLast?_concat]; exact hm c (by simp)
theorem addS_plus {S : Sto} {T0 : Int} (h : lastTop S.cells = T0) (k n : Int) (s : ByteArray) : addS S k n s = plusS S [⟨k, n, s, [], -1, T0⟩] := by subst h; rfl
structure IFill (w : World) (g n : Nat) (L : List Int) : Prop where
 row : ∃ cs : Array Value, w.heap[g]? = some (.cells cs 3 (0, 0)) ∧ cs.size = n
 got : ∀ i (h : i < L.length), w.cell? ⟨g, i, none⟩ = some (.int .i64 L[i])
theorem IFill.lt {w : World} {g n : Nat} {L : List Int} (h : IFill w g n L) : g < w.heap.size := by obtain ⟨cs, h, -⟩ := h.row; exact (Array.getElem?_eq_some_iff.1 h).1
theorem IFill.keep {w w' : World} {g n : Nat} {L : List Int} (h : IFill w g n L) (hg : w'.heap[g]? = w.heap[g]?) : IFill w' g n L := by
 obtain ⟨cs, h1, h2⟩ := h.row; exact ⟨⟨cs, hg.trans h1, h2⟩, fun i hi => (World.cell?_of_block (a := ⟨g, i, none⟩) hg).trans (h.got i hi)⟩
theorem IFill.put {w : World} {g n q : Nat} {L : List Int} (h : IFill w g n L) (hq : L.length = q) (hn : q < n) (x : Int) :
 (∃ y, w.cell? ⟨g, q, none⟩ = some y) ∧ w.frozen? ⟨g, q, none⟩ = false ∧ IFill (w.setCell ⟨g, q, none⟩ (.int .i64 x)) g n (L ++ [x]) ∧ Keeps w (w.setCell ⟨g, q, none⟩ (.int .i64 x)) (fun b => b = g) := by
 obtain ⟨cs, h1, h2⟩ := h.row; have e1 := heap_setCell_same w g q _ _ (.int .i64 x) h1; refine ⟨⟨cs[q]'(by omega), by rw [cell_of_row w g q _ _ _ h1]; simp [h2, hn]⟩, frozen_of_row w g q _ _ h1, ⟨⟨_, e1, by simp [h2]⟩, fun i hi => ?_⟩, rfl, rfl, rfl, by simp [World.setCell], fun b _ hb => Below.heap_setCell _ _ _ _ hb⟩; rw [cell_of_row _ g i _ _ _ e1]
 by_cases hiq : i < L.length
 ·have e : (L ++ [x])[i] = L[i] := List.getElem_append_left hiq
  rw [e, Array.getElem?_setIfInBounds, if_neg (by omega), ← cell_of_row w g i _ _ _ h1]; exact h.got i hiq
 ·obtain rfl : i = q := by simp at hi; omega
  have e : (L ++ [x])[i] = x := by rw [List.getElem_append_right (by omega)]; simp
  rw [e, Array.getElem?_setIfInBounds, if_pos rfl, if_pos (by omega)]
theorem IFill.sl {w : World} {g n : Nat} {L : List Int} (h : IFill w g n L) (hn : L.length = n) (hm : n ≤ maxLen) : IntSl w (fun b => b = g) (.slice (some ⟨g, 0, none⟩) n n) L := by
 subst hn; exact ⟨_, _, rfl, Nat.le_refl _, hm, fun i hi => ⟨g, 0, rfl, rfl, h.lt, by rw [Nat.zero_add]; exact h.got i hi⟩⟩
theorem IFill.made {w : World} {g n B : Nat} (h : w.ownsRow B 3 1 (.slice (some ⟨g, 0, none⟩) n n) n ((madeCells #[Value.int .i64 0] (n * 1)).toList)) : IFill w g n [] := by
 obtain ⟨-, ⟨e, -⟩ | ⟨g', cap, cur, e, -, hg, -, -, hs, -⟩⟩ := h
 ·cases e
 ·simp only [Value.slice.injEq, Option.some.injEq, Addr.mk.injEq, and_true, true_and] at e
  obtain ⟨rfl, rfl⟩ := e; exact ⟨⟨cur, hg, by omega⟩, fun i hi => by simp at hi⟩
def setArgs (S : Sto) (v : Nat) (L : List Int) : List SCell := match S.cells[v]? with
 | none => S.cells
 | some c => S.cells.set v { c with args := L }
theorem setArgs_at {S : Sto} {v : Nat} {L : List Int} (h : v < S.cells.length) : setArgs S v L = S.cells.set v { S.cells[v] with args := L } := by
 unfold setArgs; rw [List.getElem?_eq_getElem h]
theorem StoRow.setArgs {w : World} {D : Nat → Prop} {p : Nat} {S : Sto} {bv : Value} {A : Nat → Prop} {g cap ga : Nat} {av : Value} {L : List Int} (h : StoRow w D p S (.slice (some ⟨g, 0, none⟩) S.cells.length cap) bv A) (v : Nat) (hv : v < S.cells.length)
 (ha : IntSl w (fun b => b = ga) av L) (hd : ¬ D ga) (hl : ga < w.heap.size) :
 StoRow (w.setCell ⟨g, v * 6 + 3, none⟩ av) (fun b => D b ∨ b = ga) p ⟨S.room, Tms.setArgs S v L, S.bonds⟩ (.slice (some ⟨g, 0, none⟩) S.cells.length cap) bv (fun b => A b ∨ b = ga) ∧ Keeps w (w.setCell ⟨g, v * 6 + 3, none⟩ av) D := by
 have hgd : D g := h.dc g rfl; have hp : p ≠ g := fun e => h.pc (by rw [e]; rfl)
 have hb : ∀ k, bv.ownBlock = some k → k ≠ g := fun k hk e => h.ne g rfl (by rw [← e]; exact hk)
 have hs := (Tms.Own.mono h.own (P' := fun b => A b ∨ b = ga) fun b hb _ => .inl hb).stored rfl v hv 3 (by decide) av { S.cells[v] with args := L } (by
  rintro cs ⟨av0, rfl, hav⟩; exact ⟨av, rfl, ha.move (fun b hb _ => ⟨.inr hb, fun e => hd (by have e : some g = some b := e; rw [← hb, ← Option.some.inj e]; exact hgd), by rw [hb]; exact hl⟩) fun _ _ _ => rfl⟩)
 refine ⟨⟨(Below.heap_setCell _ _ _ _ hp).trans h.row, ?_, h.bonds.keep (by simp [World.setCell]) fun b hlt hq => ?_, h.ne, h.pc, h.pb, ?_, ?_, .inl h.dp, fun k e => .inl (h.dc k e), fun k e => .inl (h.db k e), fun k e => e.imp_left (h.da k), ?_⟩, rfl, rfl, rfl, by simp [World.setCell], fun b _ hb => Below.heap_setCell _ _ _ _ fun e => hb (by have e : b = g := e; rw [e]; exact hgd)⟩
 ·rw [setArgs_at hv]; exact hs
 ·rcases hq with hq | hq
  ·exact hq.elim
  ·exact Below.heap_setCell _ _ _ _ (hb b hq)
 ·rintro (e | e)
  ·exact h.ap e
  ·exact hd (e ▸ h.dp)
 ·rintro k e (e' | e')
  ·exact h.ab k e e'
  ·exact hd (e' ▸ h.db k e)
 ·rintro b (e | e)
  ·have := h.dl b e; simpa [World.setCell] using this
  ·rw [e]; simpa [World.setCell] using hl
def PutD (C : PtC) (D : Nat → Prop) (S' : Sto) (F' : List (Int × Int)) (need : Int) (w w' : World) : Prop :=
 ∃ D', PtAt w' C D' S' F' need ∧ Keeps w w' (fun b => D b ∨ b = C.fb) ∧ ∀ b, D' b → D b ∨ (w.heap.size ≤ b ∧ b < w'.heap.size)
theorem PutD.refl {C : PtC} {D : Nat → Prop} {S : Sto} {F : List (Int × Int)} {need : Int} {w w' : World} (h : PtAt w C D S F need) (hb : Below w.heap.size w w') : PutD C D S F need w w' :=
 ⟨D, h.below hb, Keeps.of hb, fun b hb => .inl hb⟩
theorem put_on {C : PtC} {D D1 : Nat → Prop} {S2 : Sto} {F2 : List (Int × Int)} {need : Int} {w w1 w2 : World} (hk : Keeps w w1 (fun b => D b ∨ b = C.fb)) (hD : ∀ b, D1 b → D b ∨ (w.heap.size ≤ b ∧ b < w1.heap.size)) (h2 : PutD C D1 S2 F2 need w1 w2) : PutD C D S2 F2 need w w2 := by
 obtain ⟨D2, p2, k2, g2⟩ := h2; have hz := hk.size; refine ⟨D2, p2, hk.trans k2 fun b hb => ?_, fun b hb => ?_⟩
 ·rcases hb with hb | hb
  ·rcases hD b hb with h | h
   ·exact .inl (.inl h)
   ·exact .inr h.1
  ·exact .inl (.inr hb)
 ·have hz2 := k2.size
  rcases g2 b hb with h | h
  ·rcases hD b h with h | h
   ·exact .inl h
   ·exact .inr ⟨h.1, by omega⟩
  ·exact .inr ⟨by omega, h.2⟩
theorem PtAt.did {w w' : World} {C : PtC} {D : Nat → Prop} {S S' : Sto} {F : List (Int × Int)} {need : Int} (h : PtAt w C D S F need) (hd : StoDid w w' D C.p S') : PutD C D S' F need w w' := by
 obtain ⟨D', h1, h2, h3⟩ := hd
 have hn : ∀ b, ¬ D b → b < w.heap.size → ¬ D' b := fun b hb hlt hd => by
  rcases h3 b hd with h | h
  ·exact hb h
  ·omega
 refine ⟨D', ⟨(h2.block _ h.plt h.dpb).trans h.prow, h1, h.vars.below fun b e => h2.block b (h.vlt b e) (h.dvb b e).1, h.fresh.below (h2.block _ h.fresh.lt h.dfb), hn _ h.dpb h.plt, hn _ h.dfb h.fresh.lt, fun b e => ⟨hn b (h.dvb b e).1 (h.vlt b e), (h.dvb b e).2⟩⟩, ⟨h2.os, h2.tape, h2.output, h2.size, fun b hlt hb => h2.block b hlt fun e => hb (.inl e)⟩, h3⟩
theorem PtAt.putFresh {w w' : World} {C : PtC} {D : Nat → Prop} {S : Sto} {F F' : List (Int × Int)} {need : Int} (h : PtAt w C D S F need) (hg : w.grownBy w' (some C.fb)) (hm : IMapB w' C.fb F') : PutD C D S F' need w w' :=
 ⟨D, (h.newFresh hg hm).1, ⟨hg.os, hg.tape, hg.output, hg.size, fun b hlt hb => hg.block b hlt fun e => hb (.inr (Option.some.inj e))⟩, fun b hb => .inl hb⟩
def PutPost8 (C : PtC) (D : Nat → Prop) (S : Sto) (need : Int) (r : Int × List SCell × List (Int × Int)) (w : World) (e : Ending) (w' : World) : Prop := e = .returned (.int .i64 r.1) ∧ PutD C D (plusS S r.2.1) r.2.2 need w w'
theorem put_fin {C : PtC} {D : Nat → Prop} {S S' : Sto} {need : Int} {r r' : Int × List SCell × List (Int × Int)} {w w' : World} {x : Int} (h : r = r') (hx : r'.1 = x) (hS : S' = plusS S r'.2.1) (hp : PutD C D S' r'.2.2 need w w') : PutPost8 C D S need r w (.returned (.int .i64 x)) w' := by
 subst h hx hS; exact ⟨rfl, hp⟩
def PutRel (C : PtC) (D : Nat → Prop) (S : Sto) (F : List (Int × Int)) (need T0 : Int) (s : ByteArray) (ts : List Tm) (w : World) (ga : Nat) (vi : Value) (wr : World) : Prop :=
 ∃ (q : Nat) (D' : Nat → Prop), q ≤ ts.length ∧ vi = .int .i64 q ∧ PtAt wr C D' (plusS S (⟨4, 0, s, [], -1, T0⟩ :: (putL (told C) T0 (S.cells.length + 1) F (ts.take q)).2.1)) (putL (told C) T0 (S.cells.length + 1) F (ts.take q)).2.2 need ∧
   Keeps w wr (fun b => D b ∨ b = C.fb) ∧ (∀ b, D' b → D b ∨ (w.heap.size ≤ b ∧ b < wr.heap.size)) ∧ IFill wr ga ts.length (putL (told C) T0 (S.cells.length + 1) F (ts.take q)).1 ∧ (¬ D' ga ∧ w.heap.size ≤ ga ∧ C.fb ≠ ga)
theorem put_start {C : PtC} {D D2 : Nat → Prop} {S : Sto} {F : List (Int × Int)} {need T0 : Int} {s : ByteArray} {ts : List Tm} {w w2 w3 : World} (h : PtAt w2 C D2 (plusS S [⟨4, 0, s, [], -1, T0⟩]) F need) (hk : Keeps w w2 (fun b => D b ∨ b = C.fb)) (hg : ∀ b, D2 b → D b ∨ (w.heap.size ≤ b ∧ b < w2.heap.size)) (hb : Below w2.heap.size w2 w3) (hi : IFill w3 w2.heap.size ts.length []) :
 PutRel C D S F need T0 s ts w w2.heap.size (.int .i64 ((0 : Nat) : Int)) w3 := by
 have hz := hb.size; refine ⟨0, D2, by omega, rfl, by simpa [putL] using h.below hb, hk.trans (Keeps.of hb) (M' := fun _ => False) (fun b h => h.elim), fun b hb' => ?_, by simpa [putL] using hi, fun e => ?_, hk.size, ?_⟩
 ·rcases hg b hb' with h | h
  ·exact .inl h
  ·exact .inr ⟨h.1, by omega⟩
 ·have := h.sto.dl _ e; omega
 ·have := h.fresh.lt; omega
theorem plus_len (S : Sto) (c : SCell) (l : List SCell) : (plusS S (c :: l)).cells.length = S.cells.length + 1 + l.length := by simp [plusS]; omega
theorem put_next {C : PtC} {D D' : Nat → Prop} {S : Sto} {F : List (Int × Int)} {need T0 : Int} {s : ByteArray} {ts : List Tm} {w wr wx w9 : World} {ga q : Nat} {X : Int × List SCell × List (Int × Int)}
 (hn : putL (told C) T0 (S.cells.length + 1) F (ts.take (q + 1)) = ((putL (told C) T0 (S.cells.length + 1) F (ts.take q)).1 ++ [X.1], (putL (told C) T0 (S.cells.length + 1) F (ts.take q)).2.1 ++ X.2.1, X.2.2)) (hq : q < ts.length)
 (hk : Keeps w wr (fun b => D b ∨ b = C.fb)) (hg : ∀ b, D' b → D b ∨ (w.heap.size ≤ b ∧ b < wr.heap.size)) (hif : IFill wr ga ts.length (putL (told C) T0 (S.cells.length + 1) F (ts.take q)).1) (hgd : ¬ D' ga ∧ w.heap.size ≤ ga ∧ C.fb ≠ ga)
 (hl : (putL (told C) T0 (S.cells.length + 1) F (ts.take q)).1.length = q) (hb : Below wr.heap.size wr wx) (hd : PutD C D' (plusS (plusS S (⟨4, 0, s, [], -1, T0⟩ :: (putL (told C) T0 (S.cells.length + 1) F (ts.take q)).2.1)) X.2.1) X.2.2 need wx w9) :
 ((∃ y, w9.cell? ⟨ga, q, none⟩ = some y) ∧ w9.frozen? ⟨ga, q, none⟩ = false) ∧ PutRel C D S F need T0 s ts w ga (.int .i64 ((q + 1 : Nat) : Int)) (w9.setCell ⟨ga, q, none⟩ (.int .i64 X.1)) := by
 obtain ⟨D9, hp9, hk9, hg9⟩ := put_on (Keeps.of (M := fun b => D' b ∨ b = C.fb) hb) (fun b h => .inl h) hd; have hga : ga < wr.heap.size := hif.lt; have hi9 := hif.keep (hk9.block ga hga fun h => h.elim hgd.1 fun e => hgd.2.2 e.symm); obtain ⟨h1, h2, h3, h4⟩ := hi9.put hl hq X.1; have hz9 := hk9.size
 have hn9 : ¬ D9 ga := fun h => by
  rcases hg9 ga h with h | h
  ·exact hgd.1 h
  ·omega
 refine ⟨⟨h1, h2⟩, q + 1, D9, by omega, rfl, ?_, ?_, ?_, ?_, hn9, hgd.2⟩
 ·rw [hn]
  have := hp9.keep (w' := w9.setCell ⟨ga, q, none⟩ (.int .i64 X.1)) h4.size (h4.block _ hp9.plt fun e => ?_) (h4.block _ hp9.fresh.lt fun e => hgd.2.2 e) (fun b e => h4.block b (hp9.vlt b e) fun e' => ?_) fun b hlt hd => h4.block b hlt fun e => hn9 (e ▸ hd)
  ·rw [plus_plus, List.cons_append] at this
   exact this
  ·obtain ⟨cs, hc, -⟩ := hi9.row
   rw [← e, hp9.prow] at hc
   simp at hc
  ·rcases hp9.vars with ⟨h, -⟩ | ⟨b', h, es, c, hm, -⟩
   ·rw [e] at h; cases h
   ·rw [e] at h
    simp only [Value.map.injEq, Option.some.injEq] at h; obtain ⟨cs, hc, -⟩ := hi9.row; rw [← e', h, hm] at hc
    simp at hc
 ·refine (hk.trans hk9 fun b hb => ?_).trans h4 fun b hb => .inr (by rw [hb]; exact hgd.2.1)
  rcases hb with hb | hb
  ·rcases hg b hb with h | h
   ·exact .inl (.inl h)
   ·exact .inr h.1
  ·exact .inl (.inr hb)
 ·intro b hb
  have hs : (w9.setCell ⟨ga, q, none⟩ (.int .i64 X.1)).heap.size = w9.heap.size := by simp [World.setCell]
  have := hk.size; rcases hg9 b hb with h | h
  ·rcases hg b h with h | h
   ·exact .inl h
   ·exact .inr ⟨h.1, by omega⟩
  ·exact .inr ⟨by omega, by omega⟩
 ·rw [hn]; exact h3
theorem sto_open {w : World} {D : Nat → Prop} {p : Nat} {S : Sto} (h : StoAt w D p S) (x : Nat) (hx : x < S.cells.length) : ∃ g cap bv A, StoRow w D p S (.slice (some ⟨g, 0, none⟩) S.cells.length cap) bv A := by
 obtain ⟨cv, bv, A, h⟩ := h; obtain ⟨g, cap, av, rfl, -⟩ := h.cell x hx; exact ⟨g, cap, bv, A, h⟩
theorem put_args {C : PtC} {D D' : Nat → Prop} {S : Sto} {F' : List (Int × Int)} {need T0 : Int} {s : ByteArray} {w wr : World} {ga n gc cp : Nat} {new : List SCell} {ats : List Int} {bv : Value} {A : Nat → Prop} (hpl : C.pb < w.heap.size) (hvl : ∀ b, C.vv = .map (some b) → b < w.heap.size)
 (hk : Keeps w wr (fun b => D b ∨ b = C.fb)) (hg : ∀ b, D' b → D b ∨ (w.heap.size ≤ b ∧ b < wr.heap.size)) (h : PtAt wr C D' (plusS S (⟨4, 0, s, [], -1, T0⟩ :: new)) F' need) (hr : StoRow wr D' C.p (plusS S (⟨4, 0, s, [], -1, T0⟩ :: new)) (.slice (some ⟨gc, 0, none⟩) (plusS S (⟨4, 0, s, [], -1, T0⟩ :: new)).cells.length cp) bv A)
 (hi : IFill wr ga n ats) (hl : ats.length = n) (hm : n ≤ maxLen) (hgd : ¬ D' ga ∧ w.heap.size ≤ ga ∧ C.fb ≠ ga) :
 PutD C D (plusS S (⟨4, 0, s, ats, -1, T0⟩ :: new)) F' need w (wr.setCell ⟨gc, S.cells.length * 6 + 3, none⟩ (.slice (some ⟨ga, 0, none⟩) n n)) := by
 have hlt : S.cells.length < (plusS S (⟨4, 0, s, [], -1, T0⟩ :: new)).cells.length := by rw [plus_len]; omega
 obtain ⟨h1, h2⟩ := hr.setArgs S.cells.length hlt (hi.sl hl hm) hgd.1 hi.lt
 have he : setArgs (plusS S (⟨4, 0, s, [], -1, T0⟩ :: new)) S.cells.length ats = (plusS S (⟨4, 0, s, ats, -1, T0⟩ :: new)).cells := by
  rw [setArgs_at hlt]; have e : (plusS S (⟨4, 0, s, [], -1, T0⟩ :: new)).cells[S.cells.length]'hlt = ⟨4, 0, s, [], -1, T0⟩ := by simp [plusS]
  rw [e]
  simp [plusS]
 rw [he] at h1; have hz := h2.size; refine ⟨fun b => D' b ∨ b = ga, ⟨(h2.block _ h.plt h.dpb).trans h.prow, ⟨_, _, _, h1⟩, h.vars.below fun b e => h2.block b (h.vlt b e) (h.dvb b e).1, h.fresh.below (h2.block _ h.fresh.lt h.dfb), fun e => e.elim h.dpb fun e => by omega, fun e => e.elim h.dfb fun e => hgd.2.2 e, fun b e => ⟨fun e' => e'.elim (h.dvb b e).1 fun e' => by have := hvl b e; omega, (h.dvb b e).2⟩⟩, hk.trans h2 fun b hb => ?_, fun b hb => ?_⟩
 ·rcases hg b hb with h | h
  ·exact .inl (.inl h)
  ·exact .inr h.1
 ·have hs : (wr.setCell ⟨gc, S.cells.length * 6 + 3, none⟩ (.slice (some ⟨ga, 0, none⟩) n n)).heap.size = wr.heap.size := by simp [World.setCell]
  rcases hb with hb | hb
  ·rcases hg b hb with h | h
   ·exact .inl h
   ·exact .inr ⟨h.1, by omega⟩
  ·exact .inr ⟨by omega, by rw [hb, hs]; exact hi.lt⟩
theorem pt_put (C : PtC) (need : Int) (N : Nat) : ∀ (t : Tm) (v : Value) (P : Nat → Prop) (D : Nat → Prop) (S : Sto) (F : List (Int × Int)) (T0 : Int) (w : World), t.size ≤ N → S.cells.length + t.size ≤ 20000000 → mayT t = true → lastTop S.cells = T0 → PtAt w C D S F need → IsTm w P v t → (∀ b, P b → ¬ (D b ∨ b = C.fb)) →
 Calls Try.prog 43 #[.pointer (some ⟨C.pb, 0, none⟩), v] w (PutPost8 C D S need (putT (told C) T0 S.cells.length F t) w) := by
 induction N with
 | zero => intro t v P D S F T0 w hN; have := size_pos t; omega
 | succ N ih =>
   intro t v P D S F T0 w hN hM hmy hT hp h1 hP; have IH := Lib.hid ih; obtain ⟨P', h1, hP, hlow⟩ : ∃ P' : Nat → Prop, IsTm w P' v t ∧ (∀ b, P' b → ¬ D b ∧ ¬ b = C.fb) ∧ ∀ b, P' b → b < w.heap.size := ⟨_, h1.lt, fun b h => ⟨fun h' => hP b h.1 (.inl h'), fun h' => hP b h.1 (.inr h')⟩, fun b h => h.2⟩; obtain ⟨a, cap, rfl⟩ := h1.form; have hb0 := below_new w (rowT t a cap); have hz0 : (w.alloc (rowT t a cap)).heap.size = w.heap.size + 1 := by simp
   have hrow : (w.alloc (rowT t a cap)).heap[w.heap.size]? = some (rowT t a cap) := heap_alloc_new w _; obtain ⟨x0, x1, x2, x3⟩ := row4 hrow; have hcl : S.cells.length ≤ 20000000 := by omega
   have HP := Lib.hid hP; have HLOW := Lib.hid hlow; have H1 := Lib.hid h1; have HB := Lib.hid hb0; have HZ := Lib.hid hz0; have HR := Lib.hid hrow; have HT := Lib.hid hT; have HPT0 := Lib.hid hp; have HPT := Lib.hid (hp.below hb0); have HPL := Lib.hid (show C.pb < w.heap.size from hp.plt); have HFL := Lib.hid (show C.fb < w.heap.size from hp.fresh.lt); have HVL := Lib.hid hp.vlt; have HDL := Lib.hid hp.sto.dl; have HMY := Lib.hid hmy; have HN := Lib.hid hN; have HM := Lib.hid hM; have HLS := Lib.hid hcl; have hK := may_kind hmy; clear ih h1 hb0 hz0 hrow hp hP hlow hN hM hT hcl
   by_cases k1 : t.k = 1
   ·have b1 : (t.k == 1) = true := by simp [k1]
    have hr := putT_var (told := told C) (T0 := T0) (b := S.cells.length) (F := F) k1; clear k1 hmy hK; rcases hMn : mget C.M t.n with _ | y
    ·have hMt : told C t.n = none := hMn
     simp only [hMt] at hr; rcases hFn : mget F t.n with _ | y
     ·simp only [hFn] at hr
      have HRS := Lib.hid hr; have HMN := Lib.hid hMn; have HFN := Lib.hid hFn; clear hr hMn hMt hFn
      go_enter Try.func43, Try.ntmps43
      go_wp2; refine wp_region_rest (by kernel_rfl) ?_; have hdr : Below w.heap.size w (w.alloc (rowT t a cap)).drew := HB.out.drew; replace HR : Hid ((w.alloc (rowT t a cap)).drew.heap[w.heap.size]? = some (rowT t a cap)) := HR; replace HZ : Hid ((w.alloc (rowT t a cap)).drew.heap.size = w.heap.size + 1) := HZ; replace HPT := Lib.hid (HPT.out.below (Below.refl (w.alloc (rowT t a cap)).heap.size (w.alloc (rowT t a cap))).drew); replace HB := Lib.hid hdr; clear hdr x0 x1 x2 x3; generalize (w.alloc (rowT t a cap)).drew = W0 at *; obtain ⟨c0, c1, c2, c3⟩ := HPT.out.cells; obtain ⟨x0, x1, x2, x3⟩ := row4 HR.out; refine rest_chainP (fun u => u = W0) 0 12 (.soft 0 (.soft 1 (.soft 2 (.soft 3 (.soft 4 (.soft 5 (.soft 6 (.soft 7 (.soft 8 (.soft 9 (.soft 10 (.soft 11 .nil)))))))))))) (.soft _ (.soft _ (.soft _ (.soft _ (.soft _ (.soft _ (.soft _ (.soft _ (.soft _ (.soft _ (.soft _ (.soft _ .nil)))))))))))) ⟨rfl, ⟨rfl, ⟨rfl, ⟨rfl, ⟨rfl, ⟨rfl, ⟨rfl, ⟨rfl, ⟨rfl, ⟨rfl, ⟨rfl, ⟨rfl, trivial⟩⟩⟩⟩⟩⟩⟩⟩⟩⟩⟩⟩ (by kernel_rfl) (by kernel_rfl) (by kernel_rfl) (by kernel_rfl) (.inl rfl) rfl ?_; refine cS (a1 := ?ma61) ?mh61 ?mr61
      case mh61 =>
       intro u hu E hE; subst hu; go_wp2; rfl
      refine chainP_nck _ _ rfl rfl rfl ?_; simp only [Act.put, zA, zB, zC, zD, zE, zF, zG, Nat.reduceAdd]; refine cS (a1 := ?ma62) ?mh62 ?mr62
      case mh62 =>
       intro u hu E hE; subst hu; go_wp2; rfl
      refine cS (a1 := ?ma63) ?mh63 ?mr63
      case mh63 =>
       intro u hu E hE; subst hu; go_wp2; rfl
      refine cS (a1 := ?ma64) ?mh64 ?mr64
      case mh64 =>
       intro u hu E hE; subst hu; go_wp2; rfl
      refine cS (a1 := ?ma65) ?mh65 ?mr65
      case mh65 =>
       intro u hu E hE; subst hu; go_wp2; rfl
      refine cS (a1 := ?ma66) ?mh66 ?mr66
      case mh66 =>
       intro u hu E hE; subst hu; refine wpList_vmap_ok rfl 53 (.tmp 21) (.tmp 23) rfl _ _ _ Try.underlying53 Try.underlying2 C.vv C.M rfl HPT.out.vars t.n rfl (fun _ => by kernel_rfl) ?_; rw [HMN.out]; go_wp2; rfl
      refine cS (a1 := ?ma67) ?mh67 ?mr67
      case mh67 =>
       intro u hu E hE; subst hu; go_wp2; rfl
      refine cS (a1 := ?ma68) ?mh68 ?mr68
      case mh68 =>
       intro u hu E hE; subst hu; go_wp2; rfl
      refine cS (a1 := ?ma69) ?mh69 ?mr69
      case mh69 =>
       intro u hu E hE; subst hu; go_wp2; rfl
      refine cS (a1 := ?ma70) ?mh70 ?mr70
      case mh70 =>
       intro u hu E hE; subst hu; go_wp2; rfl
      refine cS (a1 := ?ma71) ?mh71 ?mr71
      case mh71 =>
       intro u hu E hE; subst hu; go_wp2; rfl
      refine chainP_nil ?_; refine rest_end (by decide) ?_; go_wp2; refine wp_region_rest (by kernel_rfl) ?_; have hdr : Below w.heap.size w (W0).drew := HB.out.drew; replace HR : Hid ((W0).drew.heap[w.heap.size]? = some (rowT t a cap)) := HR; replace HZ : Hid ((W0).drew.heap.size = w.heap.size + 1) := HZ; replace HPT := Lib.hid (HPT.out.below (Below.refl (W0).heap.size (W0)).drew); replace HB := Lib.hid hdr; clear hdr x0 x1 x2 x3 c0 c1 c2 c3; generalize (W0).drew = W1 at *; obtain ⟨c0, c1, c2, c3⟩ := HPT.out.cells; obtain ⟨x0, x1, x2, x3⟩ := row4 HR.out; refine rest_chainP (fun u => u = W1) 0 12 (.soft 0 (.soft 1 (.soft 2 (.soft 3 (.soft 4 (.soft 5 (.soft 6 (.soft 7 (.soft 8 (.soft 9 (.soft 10 (.soft 11 .nil)))))))))))) (.soft _ (.soft _ (.soft _ (.soft _ (.soft _ (.soft _ (.soft _ (.soft _ (.soft _ (.soft _ (.soft _ (.soft _ .nil)))))))))))) ⟨rfl, ⟨rfl, ⟨rfl, ⟨rfl, ⟨rfl, ⟨rfl, ⟨rfl, ⟨rfl, ⟨rfl, ⟨rfl, ⟨rfl, ⟨rfl, trivial⟩⟩⟩⟩⟩⟩⟩⟩⟩⟩⟩⟩ (by kernel_rfl) (by kernel_rfl) (by kernel_rfl) (by kernel_rfl) (.inl rfl) rfl ?_; refine cS (a1 := ?ma72) ?mh72 ?mr72
      case mh72 =>
       intro u hu E hE; subst hu; go_wp2; rfl
      refine chainP_nck _ _ rfl rfl rfl ?_; simp only [Act.put, zA, zB, zC, zD, zE, zF, zG, Nat.reduceAdd]; refine cS (a1 := ?ma73) ?mh73 ?mr73
      case mh73 =>
       intro u hu E hE; subst hu; go_wp2; rfl
      refine cS (a1 := ?ma74) ?mh74 ?mr74
      case mh74 =>
       intro u hu E hE; subst hu; go_wp2; rfl
      refine cS (a1 := ?ma75) ?mh75 ?mr75
      case mh75 =>
       intro u hu E hE; subst hu; go_wp2; rfl
      refine cS (a1 := ?ma76) ?mh76 ?mr76
      case mh76 =>
       intro u hu E hE; subst hu; go_wp2; rfl
      refine cS (a1 := ?ma77) ?mh77 ?mr77
      case mh77 =>
       intro u hu E hE; subst hu; refine wpList_imap_ok rfl 53 (.tmp 33) (.tmp 35) rfl _ _ _ Try.underlying53 Try.underlying2 C.fb F rfl HPT.out.fresh.imap t.n rfl (fun _ => by kernel_rfl) ?_; rw [HFN.out]; go_wp2; rfl
      refine cS (a1 := ?ma78) ?mh78 ?mr78
      case mh78 =>
       intro u hu E hE; subst hu; go_wp2; rfl
      refine cS (a1 := ?ma79) ?mh79 ?mr79
      case mh79 =>
       intro u hu E hE; subst hu; go_wp2; rfl
      refine cS (a1 := ?ma80) ?mh80 ?mr80
      case mh80 =>
       intro u hu E hE; subst hu; go_wp2; rfl
      refine cS (a1 := ?ma81) ?mh81 ?mr81
      case mh81 =>
       intro u hu E hE; subst hu; go_wp2; rfl
      refine cS (a1 := ?ma82) ?mh82 ?mr82
      case mh82 =>
       intro u hu E hE; subst hu; go_wp2; rfl
      refine chainP_nil ?_; refine rest_end (by decide) ?_
      go_wp2_with fail
      refine (sto_add W1 HPT.out.sto HLS.out 1 0 ⟨#[]⟩).mono ?_; rintro e w2 ⟨rfl, hd⟩; rw [addS_plus HT.out] at hd; have hr2 := hd; obtain ⟨D1, hs1, hk1, hg1⟩ := hr2; have hrow2 := (hk1.block w.heap.size (by have := HZ.out; omega) (fun h => by have := HDL.out _ h; omega)).trans HR.out; obtain ⟨D2, hp2, hk2, hg2⟩ := HPT.out.did hd; have HR2 := Lib.hid hrow2; have HP2 := Lib.hid hp2; have HK2 := Lib.hid hk2; have HG2 := Lib.hid hg2; clear hd hs1 hk1 hg1 hrow2 hp2 hk2 hg2 x0 x1 x2 x3 c0 c1 c2 c3; go_wp2; refine wp_region_rest (by kernel_rfl) ?_; have HP3 := Lib.hid (HP2.out.below (Below.refl w2.heap.size w2).drew); have HB3 := Lib.hid ((Below.refl w2.heap.size w2).drew); have hR3 : w2.drew.heap[w.heap.size]? = some (rowT t a cap) := HR2.out; have HR3 := Lib.hid hR3; clear hR3; generalize w2.drew = W3 at *; obtain ⟨c0, c1, c2, c3⟩ := HP3.out.cells; obtain ⟨x0, x1, x2, x3⟩ := row4 HR3.out; refine rest_chainP (fun u => u = W3) 0 7 (.soft 0 (.soft 1 (.soft 2 (.soft 3 (.soft 4 (.soft 5 (.soft 6 .nil))))))) (.soft _ (.soft _ (.soft _ (.soft _ (.soft _ (.soft _ (.soft _ .nil))))))) ⟨rfl, ⟨rfl, ⟨rfl, ⟨rfl, ⟨rfl, ⟨rfl, ⟨rfl, trivial⟩⟩⟩⟩⟩⟩⟩ (by kernel_rfl) (by kernel_rfl) (by kernel_rfl) (by kernel_rfl) (.inr (by kernel_rfl)) rfl ?_; refine cS (a1 := ?ma83) ?mh83 ?mr83
      case mh83 =>
       intro u hu E hE; subst hu; go_wp2; rfl
      refine chainP_nck _ _ rfl rfl rfl ?_; simp only [Act.put, zA, zB, zC, zD, zE, zF, zG, Nat.reduceAdd]; refine cS (a1 := ?ma84) ?mh84 ?mr84
      case mh84 =>
       intro u hu E hE; subst hu; go_wp2; rfl
      refine cS (a1 := ?ma85) ?mh85 ?mr85
      case mh85 =>
       intro u hu E hE; subst hu; go_wp2; rfl
      refine cS (a1 := ?ma86) ?mh86 ?mr86
      case mh86 =>
       intro u hu E hE; subst hu; go_wp2; rfl
      refine cS (a1 := ?ma87) ?mh87 ?mr87
      case mh87 =>
       intro u hu E hE; subst hu; go_wp2; rfl
      refine cS (a1 := ?ma88) ?mh88 ?mr88
      case mh88 =>
       intro u hu E hE; subst hu; go_wp2; rfl
      refine chainP_nil ?_; refine rest_lineL 7 8 [_] rfl (by kernel_rfl) (by decide) (by decide) (by kernel_rfl) ?_; refine wpList_imapb_set rfl 53 (.tmp 50) (.tmp 52) (.tmp 53) rfl _ _ _ Try.underlying53 Try.underlying2 C.fb F rfl HP3.out.fresh t.n rfl S.cells.length rfl ?_; intro w4 hi4 hg4; rw [mset_new HFN.out] at hi4; have h5 := HP3.out.putFresh hg4 hi4; have h6 := put_on (Keeps.of HB.out) (fun b hb => .inl hb) (put_on HK2.out HG2.out (put_on (Keeps.of HB3.out) (fun b hb => .inl hb) h5)); have H6 := Lib.hid h6; clear hi4 hg4 h5 h6 x0 x1 x2 x3 c0 c1 c2 c3; refine then_rest (rest_end (by decide) ?_); go_wp2; go_ret; exact put_fin HRS.out rfl rfl H6.out
     ·simp only [hFn] at hr
      have HRS := Lib.hid hr; have HMN := Lib.hid hMn; have HFN := Lib.hid hFn; clear hr hMn hMt hFn
      go_enter Try.func43, Try.ntmps43
      go_wp2; refine wp_region_rest (by kernel_rfl) ?_; have hdr : Below w.heap.size w (w.alloc (rowT t a cap)).drew := HB.out.drew; replace HR : Hid ((w.alloc (rowT t a cap)).drew.heap[w.heap.size]? = some (rowT t a cap)) := HR; replace HZ : Hid ((w.alloc (rowT t a cap)).drew.heap.size = w.heap.size + 1) := HZ; replace HPT := Lib.hid (HPT.out.below (Below.refl (w.alloc (rowT t a cap)).heap.size (w.alloc (rowT t a cap))).drew); replace HB := Lib.hid hdr; clear hdr x0 x1 x2 x3; generalize (w.alloc (rowT t a cap)).drew = W0 at *; obtain ⟨c0, c1, c2, c3⟩ := HPT.out.cells; obtain ⟨x0, x1, x2, x3⟩ := row4 HR.out; refine rest_chainP (fun u => u = W0) 0 12 (.soft 0 (.soft 1 (.soft 2 (.soft 3 (.soft 4 (.soft 5 (.soft 6 (.soft 7 (.soft 8 (.soft 9 (.soft 10 (.soft 11 .nil)))))))))))) (.soft _ (.soft _ (.soft _ (.soft _ (.soft _ (.soft _ (.soft _ (.soft _ (.soft _ (.soft _ (.soft _ (.soft _ .nil)))))))))))) ⟨rfl, ⟨rfl, ⟨rfl, ⟨rfl, ⟨rfl, ⟨rfl, ⟨rfl, ⟨rfl, ⟨rfl, ⟨rfl, ⟨rfl, ⟨rfl, trivial⟩⟩⟩⟩⟩⟩⟩⟩⟩⟩⟩⟩ (by kernel_rfl) (by kernel_rfl) (by kernel_rfl) (by kernel_rfl) (.inl rfl) rfl ?_; refine cS (a1 := ?ma89) ?mh89 ?mr89
      case mh89 =>
       intro u hu E hE; subst hu; go_wp2; rfl
      refine chainP_nck _ _ rfl rfl rfl ?_; simp only [Act.put, zA, zB, zC, zD, zE, zF, zG, Nat.reduceAdd]; refine cS (a1 := ?ma90) ?mh90 ?mr90
      case mh90 =>
       intro u hu E hE; subst hu; go_wp2; rfl
      refine cS (a1 := ?ma91) ?mh91 ?mr91
      case mh91 =>
       intro u hu E hE; subst hu; go_wp2; rfl
      refine cS (a1 := ?ma92) ?mh92 ?mr92
      case mh92 =>
       intro u hu E hE; subst hu; go_wp2; rfl
      refine cS (a1 := ?ma93) ?mh93 ?mr93
      case mh93 =>
       intro u hu E hE; subst hu; go_wp2; rfl
      refine cS (a1 := ?ma94) ?mh94 ?mr94
      case mh94 =>
       intro u hu E hE; subst hu; refine wpList_vmap_ok rfl 53 (.tmp 21) (.tmp 23) rfl _ _ _ Try.underlying53 Try.underlying2 C.vv C.M rfl HPT.out.vars t.n rfl (fun _ => by kernel_rfl) ?_; rw [HMN.out]; go_wp2; rfl
      refine cS (a1 := ?ma95) ?mh95 ?mr95
      case mh95 =>
       intro u hu E hE; subst hu; go_wp2; rfl
      refine cS (a1 := ?ma96) ?mh96 ?mr96
      case mh96 =>
       intro u hu E hE; subst hu; go_wp2; rfl
      refine cS (a1 := ?ma97) ?mh97 ?mr97
      case mh97 =>
       intro u hu E hE; subst hu; go_wp2; rfl
      refine cS (a1 := ?ma98) ?mh98 ?mr98
      case mh98 =>
       intro u hu E hE; subst hu; go_wp2; rfl
      refine cS (a1 := ?ma99) ?mh99 ?mr99
      case mh99 =>
       intro u hu E hE; subst hu; go_wp2; rfl
      refine chainP_nil ?_; refine rest_end (by decide) ?_; go_wp2; refine wp_region_rest (by kernel_rfl) ?_; have hdr : Below w.heap.size w (W0).drew := HB.out.drew; replace HR : Hid ((W0).drew.heap[w.heap.size]? = some (rowT t a cap)) := HR; replace HZ : Hid ((W0).drew.heap.size = w.heap.size + 1) := HZ; replace HPT := Lib.hid (HPT.out.below (Below.refl (W0).heap.size (W0)).drew); replace HB := Lib.hid hdr; clear hdr x0 x1 x2 x3 c0 c1 c2 c3; generalize (W0).drew = W1 at *; obtain ⟨c0, c1, c2, c3⟩ := HPT.out.cells; obtain ⟨x0, x1, x2, x3⟩ := row4 HR.out; refine rest_chainP (fun u => u = W1) 0 12 (.soft 0 (.soft 1 (.soft 2 (.soft 3 (.soft 4 (.soft 5 (.soft 6 (.soft 7 (.soft 8 (.soft 9 (.soft 10 (.soft 11 .nil)))))))))))) (.soft _ (.soft _ (.soft _ (.soft _ (.soft _ (.soft _ (.soft _ (.soft _ (.soft _ (.soft _ (.soft _ (.soft _ .nil)))))))))))) ⟨rfl, ⟨rfl, ⟨rfl, ⟨rfl, ⟨rfl, ⟨rfl, ⟨rfl, ⟨rfl, ⟨rfl, ⟨rfl, ⟨rfl, ⟨rfl, trivial⟩⟩⟩⟩⟩⟩⟩⟩⟩⟩⟩⟩ (by kernel_rfl) (by kernel_rfl) (by kernel_rfl) (by kernel_rfl) (.inl rfl) rfl ?_; refine cS (a1 := ?ma100) ?mh100 ?mr100
      case mh100 =>
       intro u hu E hE; subst hu; go_wp2; rfl
      refine chainP_nck _ _ rfl rfl rfl ?_; simp only [Act.put, zA, zB, zC, zD, zE, zF, zG, Nat.reduceAdd]; refine cS (a1 := ?ma101) ?mh101 ?mr101
      case mh101 =>
       intro u hu E hE; subst hu; go_wp2; rfl
      refine cS (a1 := ?ma102) ?mh102 ?mr102
      case mh102 =>
       intro u hu E hE; subst hu; go_wp2; rfl
      refine cS (a1 := ?ma103) ?mh103 ?mr103
      case mh103 =>
       intro u hu E hE; subst hu; go_wp2; rfl
      refine cS (a1 := ?ma104) ?mh104 ?mr104
      case mh104 =>
       intro u hu E hE; subst hu; go_wp2; rfl
      refine cS (a1 := ?ma105) ?mh105 ?mr105
      case mh105 =>
       intro u hu E hE; subst hu; refine wpList_imap_ok rfl 53 (.tmp 33) (.tmp 35) rfl _ _ _ Try.underlying53 Try.underlying2 C.fb F rfl HPT.out.fresh.imap t.n rfl (fun _ => by kernel_rfl) ?_; rw [HFN.out]; go_wp2; rfl
      refine cS (a1 := ?ma106) ?mh106 ?mr106
      case mh106 =>
       intro u hu E hE; subst hu; go_wp2; rfl
      refine cS (a1 := ?ma107) ?mh107 ?mr107
      case mh107 =>
       intro u hu E hE; subst hu; go_wp2; rfl
      refine cS (a1 := ?ma108) ?mh108 ?mr108
      case mh108 =>
       intro u hu E hE; subst hu; go_wp2; rfl
      refine cS (a1 := ?ma109) ?mh109 ?mr109
      case mh109 =>
       intro u hu E hE; subst hu; go_wp2; rfl
      refine cS (a1 := ?ma110) ?mh110 ?mr110
      case mh110 =>
       intro u hu E hE; subst hu; go_wp2; rfl
      refine chainP_nil ?_; refine rest_end (by decide) ?_; go_wp2; go_ret; exact put_fin HRS.out rfl (plus_nil S).symm (PutD.refl HPT0.out HB.out)
    ·have hMt : told C t.n = some y := hMn
     simp only [hMt] at hr; have HRS := Lib.hid hr; have HMN := Lib.hid hMn; clear hr hMn hMt
     go_enter Try.func43, Try.ntmps43
     go_wp2; refine wp_region_rest (by kernel_rfl) ?_; have hdr : Below w.heap.size w (w.alloc (rowT t a cap)).drew := HB.out.drew; replace HR : Hid ((w.alloc (rowT t a cap)).drew.heap[w.heap.size]? = some (rowT t a cap)) := HR; replace HZ : Hid ((w.alloc (rowT t a cap)).drew.heap.size = w.heap.size + 1) := HZ; replace HPT := Lib.hid (HPT.out.below (Below.refl (w.alloc (rowT t a cap)).heap.size (w.alloc (rowT t a cap))).drew); replace HB := Lib.hid hdr; clear hdr x0 x1 x2 x3; generalize (w.alloc (rowT t a cap)).drew = W0 at *; obtain ⟨c0, c1, c2, c3⟩ := HPT.out.cells; obtain ⟨x0, x1, x2, x3⟩ := row4 HR.out; refine rest_chainP (fun u => u = W0) 0 12 (.soft 0 (.soft 1 (.soft 2 (.soft 3 (.soft 4 (.soft 5 (.soft 6 (.soft 7 (.soft 8 (.soft 9 (.soft 10 (.soft 11 .nil)))))))))))) (.soft _ (.soft _ (.soft _ (.soft _ (.soft _ (.soft _ (.soft _ (.soft _ (.soft _ (.soft _ (.soft _ (.soft _ .nil)))))))))))) ⟨rfl, ⟨rfl, ⟨rfl, ⟨rfl, ⟨rfl, ⟨rfl, ⟨rfl, ⟨rfl, ⟨rfl, ⟨rfl, ⟨rfl, ⟨rfl, trivial⟩⟩⟩⟩⟩⟩⟩⟩⟩⟩⟩⟩ (by kernel_rfl) (by kernel_rfl) (by kernel_rfl) (by kernel_rfl) (.inl rfl) rfl ?_; refine cS (a1 := ?ma111) ?mh111 ?mr111
     case mh111 =>
      intro u hu E hE; subst hu; go_wp2; rfl
     refine chainP_nck _ _ rfl rfl rfl ?_; simp only [Act.put, zA, zB, zC, zD, zE, zF, zG, Nat.reduceAdd]; refine cS (a1 := ?ma112) ?mh112 ?mr112
     case mh112 =>
      intro u hu E hE; subst hu; go_wp2; rfl
     refine cS (a1 := ?ma113) ?mh113 ?mr113
     case mh113 =>
      intro u hu E hE; subst hu; go_wp2; rfl
     refine cS (a1 := ?ma114) ?mh114 ?mr114
     case mh114 =>
      intro u hu E hE; subst hu; go_wp2; rfl
     refine cS (a1 := ?ma115) ?mh115 ?mr115
     case mh115 =>
      intro u hu E hE; subst hu; go_wp2; rfl
     refine cS (a1 := ?ma116) ?mh116 ?mr116
     case mh116 =>
      intro u hu E hE; subst hu; refine wpList_vmap_ok rfl 53 (.tmp 21) (.tmp 23) rfl _ _ _ Try.underlying53 Try.underlying2 C.vv C.M rfl HPT.out.vars t.n rfl (fun _ => by kernel_rfl) ?_; rw [HMN.out]; go_wp2; rfl
     refine cS (a1 := ?ma117) ?mh117 ?mr117
     case mh117 =>
      intro u hu E hE; subst hu; go_wp2; rfl
     refine cS (a1 := ?ma118) ?mh118 ?mr118
     case mh118 =>
      intro u hu E hE; subst hu; go_wp2; rfl
     refine cS (a1 := ?ma119) ?mh119 ?mr119
     case mh119 =>
      intro u hu E hE; subst hu; go_wp2; rfl
     refine cS (a1 := ?ma120) ?mh120 ?mr120
     case mh120 =>
      intro u hu E hE; subst hu; go_wp2; rfl
     refine cS (a1 := ?ma121) ?mh121 ?mr121
     case mh121 =>
      intro u hu E hE; subst hu; go_wp2; rfl
     refine chainP_nil ?_; refine rest_end (by decide) ?_; go_wp2; go_ret; exact put_fin HRS.out rfl (plus_nil S).symm (PutD.refl HPT0.out HB.out)
   by_cases k4 : t.k = 4
   ·have b1 : (t.k == 1) = false := by simp [k4]
    have b4 : (t.k == 4) = true := by simp [k4]
    have hr := putT_comp (told := told C) (T0 := T0) (b := S.cells.length) (F := F) k4; have HRS := Lib.hid hr; have hargs : t.args.length ≤ 20000000 := by have := len_le t.args; have := HM.out; obtain ⟨k, n, s, ar⟩ := t; simp only [Tm.size, Tm.args] at *; omega
    have HSZ : Hid (t.size = sizeL t.args + 1) := Lib.hid (by obtain ⟨k, n, s, ar⟩ := t; simp [Tm.size, Tm.args]); have H1A := Lib.hid H1.out.args; have HMA : Hid (∀ x ∈ t.args, mayT x = true) := Lib.hid fun x hx => may_arg HMY.out hx
    clear hr k1 k4 hmy hK
    go_enter Try.func43, Try.ntmps43
    go_wp2; refine wp_region_rest (by kernel_rfl) ?_; have hdr : Below w.heap.size w (w.alloc (rowT t a cap)).drew := HB.out.drew; replace HR : Hid ((w.alloc (rowT t a cap)).drew.heap[w.heap.size]? = some (rowT t a cap)) := HR; replace HZ : Hid ((w.alloc (rowT t a cap)).drew.heap.size = w.heap.size + 1) := HZ; replace HPT := Lib.hid (HPT.out.below (Below.refl (w.alloc (rowT t a cap)).heap.size (w.alloc (rowT t a cap))).drew); replace HB := Lib.hid hdr; clear hdr x0 x1 x2 x3; generalize (w.alloc (rowT t a cap)).drew = W0 at *; obtain ⟨c0, c1, c2, c3⟩ := HPT.out.cells; obtain ⟨x0, x1, x2, x3⟩ := row4 HR.out; refine rest_chainP (fun u => u = W0) 0 7 (.soft 0 (.soft 1 (.soft 2 (.soft 3 (.soft 4 (.soft 5 (.soft 6 .nil))))))) (.soft _ (.soft _ (.soft _ (.soft _ (.soft _ (.soft _ (.soft _ .nil))))))) ⟨rfl, ⟨rfl, ⟨rfl, ⟨rfl, ⟨rfl, ⟨rfl, ⟨rfl, trivial⟩⟩⟩⟩⟩⟩⟩ (by kernel_rfl) (by kernel_rfl) (by kernel_rfl) (by kernel_rfl) (.inr (by kernel_rfl)) rfl ?_; refine cS (a1 := ?ma122) ?mh122 ?mr122
    case mh122 =>
     intro u hu E hE; subst hu; go_wp2; rfl
    refine chainP_nck _ _ rfl rfl rfl ?_; simp only [Act.put, zA, zB, zC, zD, zE, zF, zG, Nat.reduceAdd]; refine cS (a1 := ?ma123) ?mh123 ?mr123
    case mh123 =>
     intro u hu E hE; subst hu; go_wp2; rfl
    refine cS (a1 := ?ma124) ?mh124 ?mr124
    case mh124 =>
     intro u hu E hE; subst hu; go_wp2; rfl
    refine cS (a1 := ?ma125) ?mh125 ?mr125
    case mh125 =>
     intro u hu E hE; subst hu; go_wp2; rfl
    refine cS (a1 := ?ma126) ?mh126 ?mr126
    case mh126 =>
     intro u hu E hE; subst hu; go_wp2; rfl
    refine cS (a1 := ?ma127) ?mh127 ?mr127
    case mh127 =>
     intro u hu E hE; subst hu; go_wp2; rfl
    refine chainP_nil ?_; refine rest_lineL 7 9 [_, _] rfl (by kernel_rfl) (by decide) (by decide) (by kernel_rfl) ?_
    go_wp2_with fail
    refine (sto_add W0 HPT.out.sto HLS.out 4 0 t.s).mono ?_; rintro e w2 ⟨rfl, hd⟩; rw [addS_plus HT.out] at hd
    have hrow2 : w2.heap[w.heap.size]? = some (rowT t a cap) := by
     obtain ⟨D1, hs1, hk1, hg1⟩ := hd; exact (hk1.block w.heap.size (by have := HZ.out; omega) (fun h => by have := HDL.out _ h; omega)).trans HR.out
    obtain ⟨D2, hp2, hk2, hg2⟩ := put_on (Keeps.of HB.out) (fun b hb => .inl hb) (HPT.out.did hd); have HR2 := Lib.hid hrow2; have HP2 := Lib.hid hp2; have HK2 := Lib.hid hk2; have HG2 := Lib.hid hg2; have hz2 : w.heap.size < w2.heap.size := (Array.getElem?_eq_some_iff.1 hrow2).1; clear hd hrow2 hp2 hk2 hg2 x0 x1 x2 x3 c0 c1 c2 c3; go_wp2; refine then_rest (rest_end (by decide) ?_); obtain ⟨x0, x1, x2, x3⟩ := row4 HR2.out; obtain ⟨i0, hti, hy0, hy1, hy2⟩ := info_parts info_int
    go_wp2_with (with_reducible show wpList _ _ _ (⟨some 68, _, _, _, _, _⟩ :: _) _ _
                 refine wpList_make_full _ rfl (.tmp 67) (.tmp 67) 38 rfl w2.heap.size 3 i0 _ 1 Try.underlying38 hti hy0 hy1 .i64 .i64 _ _ t.args.length rfl rfl rfl rfl (by rw [hy2]; omega) (by unfold maxLen; omega) (Nat.le_refl _) ?_; intro w3 hown hgr; have hif := IFill.made hown; have hb3 : Below w2.heap.size w2 w3 := (Below.refl _ _).grown hgr (Nat.le_refl _) (by simp); have hr3 := (hb3.block _ hz2).trans HR2.out; have hst : PutRel C D S F need T0 t.s t.args w w2.heap.size (.int .i64 ((0 : Nat) : Int)) w3 := put_start HP2.out HK2.out HG2.out hb3 hif; have HST := Lib.hid hst; have HR3 := Lib.hid hr3; have hz3 : w2.heap.size ≤ w3.heap.size := hb3.size; clear hown hgr hif hb3 hr3 hst hti hy0 hy1 hy2 x0 x1 x2 x3; obtain ⟨x0, x1, x2, x3⟩ := row4 HR3.out)
    obtain ⟨k, n, s, ts⟩ := t; simp only [rowT, Tm.k, Tm.n, Tm.s, Tm.args] at *; clear HPT HR HB HZ HR2 HP2 HK2 HG2 x0 x1 x2 x3; generalize w2.heap.size = ga at *
    go_loopw [72] (fun vi wr => PutRel C D S F need T0 s ts w ga vi wr) (fun vi _ => ts.length - (intOf vi).toNat)
    case atStart => exact HST.out
    case round =>
     obtain ⟨q, D', hq, rfl, hpt, hk, hg, hif, hgd⟩ := hrel; have HP1 := Lib.hid hpt; have HK1 := Lib.hid hk; have HG1 := Lib.hid hg; have HIF := Lib.hid hif; have HGD := Lib.hid hgd; clear hpt hk hg hif hgd HST
     by_cases hql : q < ts.length
     ·obtain ⟨g1, o1, rfl, p1, m1⟩ := (H1A.out.imp (w' := wr) (fun _ h => h) fun b hb hlt => HK1.out.block b hlt (fun h => by rcases h with h | h; exact (HP.out b hb).1 h; exact (HP.out b hb).2 h)).at q hql
      obtain ⟨d1, e1, x10, x11, x12, x13, i1, l1⟩ := m1.read; have h1s := size_mem hql; have HX := Lib.hid (show ts[q].size ≤ N by have := HN.out; have := HSZ.out; omega); have HMX := Lib.hid (HMA.out ts[q] (List.getElem_mem hql)); have HNX := Lib.hid (putL_take (told := told C) (T0 := T0) (b := S.cells.length + 1) (F := F) hql)
      have HLX : Hid ((plusS S (⟨4, 0, s, [], -1, T0⟩ :: (putL (told C) T0 (S.cells.length + 1) F (ts.take q)).2.1)).cells.length + ts[q].size ≤ 20000000) := Lib.hid (by
       have h3 := putL_len (told C) T0 (ts.take q) (S.cells.length + 1) F
       have h4 : sizeL (ts.take q) + ts[q].size ≤ sizeL ts := by
        have h2 := sizeL_take ts (q + 1); have e : ts.take (q + 1) = ts.take q ++ [ts[q]] := List.take_succ_eq_append_getElem hql; have e2 := sizeL_app (ts.take q) [ts[q]]; rw [← e] at e2; simp only [sizeL] at e2; omega
       have := HM.out; have := HSZ.out; simp only [plusS, List.length_append, List.length_cons]; omega)
      have HTX : Hid (lastTop (plusS S (⟨4, 0, s, [], -1, T0⟩ :: (putL (told C) T0 (S.cells.length + 1) F (ts.take q)).2.1)).cells = T0) := Lib.hid (last_app HT.out (by
       intro c hc; rcases List.mem_cons.1 hc with rfl | hc
       ·rfl
       ·exact putL_top _ _ _ _ _ c hc))
      have hle1 := putL_len1 (told C) T0 (ts.take q) (S.cells.length + 1) F; rw [List.length_take, Nat.min_eq_left (by omega)] at hle1; have HLE := Lib.hid hle1; have hbx := below_new wr (rowT ts[q] d1 e1); have I1 := Lib.hid (i1.below hbx); have HBX := Lib.hid hbx; have HPX := Lib.hid (HP1.out.below hbx)
      have HPP : Hid (∀ b, P' b → ¬ (D' b ∨ b = C.fb)) := Lib.hid fun b hb h => by
       rcases h with h | h
       ·rcases HG1.out b h with h' | h'
        ·exact (HP.out b hb).1 h'
        ·have := HLOW.out b hb; omega
       ·exact (HP.out b hb).2 h
      clear m1 i1 h1s hbx hle1; generalize ts[q] = x at *; have hin : (q : Int) < (ts.length : Int) := by omega
      have hin0 : (0 : Int) ≤ (q : Int) := by omega
      go_wp2_with fail
      have hih := IH.out x _ _ _ _ _ _ _ HX.out HLX.out HMX.out HTX.out HPX.out I1.out HPP.out; rw [plus_len] at hih; obtain ⟨X, hX⟩ : ∃ X, X = putT (told C) T0 (S.cells.length + 1 + (putL (told C) T0 (S.cells.length + 1) F (ts.take q)).2.1.length) (putL (told C) T0 (S.cells.length + 1) F (ts.take q)).2.2 x := ⟨_, rfl⟩; have hnx := HNX.out; rw [← hX] at hih hnx; have HNY := Lib.hid hnx; clear hX hnx; refine hih.mono ?_; rintro e w9 ⟨rfl, hd9⟩; have h9 := put_next HNY.out hql HK1.out HG1.out HIF.out HGD.out HLE.out HBX.out hd9; obtain ⟨⟨⟨y9, c9⟩, z9⟩, h9⟩ := h9; have H9 := Lib.hid h9; clear hih hd9 h9 x10 x11 x12 x13 l1; go_wp2; go_roundw
      case rel => exact H9.out
      case measure => simp [intOf]; omega
     ·obtain rfl : q = ts.length := by omega
      have hin : decide ((ts.length : Int) < (ts.length : Int)) = false := by simp
      obtain ⟨c0, c1, c2, c3⟩ := HP1.out.cells; have h9 := HP1.out; have hi9 := HIF.out; rw [List.take_length] at h9 hi9; obtain ⟨gc, cp, bv, A, hrow9⟩ := sto_open h9.sto S.cells.length (by simp [plusS]); obtain ⟨y0, y1, y2⟩ := row3 hrow9.row; have hfz := hrow9.own.thaw rfl (S.cells.length * 6 + 3); obtain ⟨av0, -, -, -, d3, -⟩ := hrow9.cellAt S.cells.length ⟨4, 0, s, [], -1, T0⟩ (by simp [plusS]); have hlo : S.cells.length < (plusS S (⟨4, 0, s, [], -1, T0⟩ :: (putL (told C) T0 (S.cells.length + 1) F ts).2.1)).cells.length := by simp [plusS]
      have hlo2 : (S.cells.length : Int) < ((plusS S (⟨4, 0, s, [], -1, T0⟩ :: (putL (told C) T0 (S.cells.length + 1) F ts).2.1)).cells.length : Int) := by omega
      have hlo3 : (0 : Int) ≤ (S.cells.length : Int) := by omega
      have hcap := hrow9.own.caps; have h10 := put_args HPL.out HVL.out HK1.out HG1.out h9 hrow9 hi9 (putL_len1 _ _ _ _ _) (by unfold maxLen; omega) HGD.out; have H11 := Lib.hid h10; clear h9 hi9 hrow9 h10; generalize (plusS S (⟨4, 0, s, [], -1, T0⟩ :: (putL (told C) T0 (S.cells.length + 1) F ts).2.1)).cells.length = LL at *; have hcap1 : LL ≤ cp := hcap.1; clear hcap; go_wp2; go_ret; exact put_fin HRS.out rfl rfl H11.out
   ·have b1 : (t.k == 1) = false := by simp [k1]
    have b4 : (t.k == 4) = false := by simp [k4]
    have hr := putT_leaf (told := told C) (T0 := T0) (b := S.cells.length) (F := F) k1 k4; have HRS := Lib.hid hr; clear hr k1 k4 hmy hK
    go_enter Try.func43, Try.ntmps43
    go_wp2; refine wp_region_rest (by kernel_rfl) ?_; have hdr : Below w.heap.size w (w.alloc (rowT t a cap)).drew := HB.out.drew; replace HR : Hid ((w.alloc (rowT t a cap)).drew.heap[w.heap.size]? = some (rowT t a cap)) := HR; replace HZ : Hid ((w.alloc (rowT t a cap)).drew.heap.size = w.heap.size + 1) := HZ; replace HPT := Lib.hid (HPT.out.below (Below.refl (w.alloc (rowT t a cap)).heap.size (w.alloc (rowT t a cap))).drew); replace HB := Lib.hid hdr; clear hdr x0 x1 x2 x3; generalize (w.alloc (rowT t a cap)).drew = W0 at *; obtain ⟨c0, c1, c2, c3⟩ := HPT.out.cells; obtain ⟨x0, x1, x2, x3⟩ := row4 HR.out; refine rest_chainP (fun u => u = W0) 0 11 (.soft 0 (.soft 1 (.soft 2 (.soft 3 (.soft 4 (.soft 5 (.soft 6 (.soft 7 (.soft 8 (.soft 9 (.soft 10 .nil))))))))))) (.soft _ (.soft _ (.soft _ (.soft _ (.soft _ (.soft _ (.soft _ (.soft _ (.soft _ (.soft _ (.soft _ .nil))))))))))) ⟨rfl, ⟨rfl, ⟨rfl, ⟨rfl, ⟨rfl, ⟨rfl, ⟨rfl, ⟨rfl, ⟨rfl, ⟨rfl, ⟨rfl, trivial⟩⟩⟩⟩⟩⟩⟩⟩⟩⟩⟩ (by kernel_rfl) (by kernel_rfl) (by kernel_rfl) (by kernel_rfl) (.inr (by kernel_rfl)) rfl ?_; refine cS (a1 := ?ma128) ?mh128 ?mr128
    case mh128 =>
     intro u hu E hE; subst hu; go_wp2; rfl
    refine chainP_nck _ _ rfl rfl rfl ?_; simp only [Act.put, zA, zB, zC, zD, zE, zF, zG, Nat.reduceAdd]; refine cS (a1 := ?ma129) ?mh129 ?mr129
    case mh129 =>
     intro u hu E hE; subst hu; go_wp2; rfl
    refine cS (a1 := ?ma130) ?mh130 ?mr130
    case mh130 =>
     intro u hu E hE; subst hu; go_wp2; rfl
    refine cS (a1 := ?ma131) ?mh131 ?mr131
    case mh131 =>
     intro u hu E hE; subst hu; go_wp2; rfl
    refine cS (a1 := ?ma132) ?mh132 ?mr132
    case mh132 =>
     intro u hu E hE; subst hu; go_wp2; rfl
    refine cS (a1 := ?ma133) ?mh133 ?mr133
    case mh133 =>
     intro u hu E hE; subst hu; go_wp2; rfl
    refine cS (a1 := ?ma134) ?mh134 ?mr134
    case mh134 =>
     intro u hu E hE; subst hu; go_wp2; rfl
    refine cS (a1 := ?ma135) ?mh135 ?mr135
    case mh135 =>
     intro u hu E hE; subst hu; go_wp2; rfl
    refine cS (a1 := ?ma136) ?mh136 ?mr136
    case mh136 =>
     intro u hu E hE; subst hu; go_wp2; rfl
    refine cS (a1 := ?ma137) ?mh137 ?mr137
    case mh137 =>
     intro u hu E hE; subst hu; go_wp2; rfl
    refine chainP_nil ?_; refine rest_lineL 11 13 [_, _] rfl (by kernel_rfl) (by decide) (by decide) (by kernel_rfl) ?_
    go_wp2_with fail
    refine (sto_add W0 HPT.out.sto HLS.out t.k t.n t.s).mono ?_; rintro e w2 ⟨rfl, hd⟩; rw [addS_plus HT.out] at hd; have h6 := put_on (Keeps.of HB.out) (fun b hb => .inl hb) (HPT.out.did hd); have H6 := Lib.hid h6; clear hd h6 x0 x1 x2 x3 c0 c1 c2 c3; go_wp2; refine then_rest (rest_end (by decide) ?_); go_wp2; go_ret; exact put_fin HRS.out rfl rfl H6.out
def putC (w : World) (p : Nat) (vv : Value) (M : List (Int × Int)) : PtC := ⟨w.heap.size + 1, p, w.heap.size, vv, M⟩
theorem put_four {w : World} {D : Nat → Prop} {S : Sto} {p : Nat} {vv : Value} {M : List (Int × Int)} (hS : StoAt w D p S) (hv : VMap w vv M) (hd : ∀ b, vv = .map (some b) → ¬ D b) :
 PtAt ((w.alloc (.map #[] 0)).alloc (ptO (putC w p vv M) 0)) (putC w p vv M) D S [] 0 ∧ Below w.heap.size w ((w.alloc (.map #[] 0)).alloc (ptO (putC w p vv M) 0)) := by
 obtain ⟨t0, t1, tsz, tbl⟩ := two w (.map #[] 0) (ptO (putC w p vv M) 0); generalize (w.alloc (.map #[] 0)).alloc (ptO (putC w p vv M) 0) = W at *
 have hvl : ∀ b, vv = .map (some b) → b < w.heap.size := fun b e => by
  rcases hv with ⟨h, -⟩ | ⟨b', h, hm⟩
  ·rw [e] at h; cases h
  ·rw [e] at h
   simp only [Value.map.injEq, Option.some.injEq] at h; rw [h]; exact hm.lt
 have hdl : ∀ b, D b → b < w.heap.size := by obtain ⟨cv, bv, A, h⟩ := hS; exact h.dl
 exact ⟨⟨t1, hS.below tbl, hv.below fun b e => tbl.block b (hvl b e), ⟨#[], 0, t0, rfl, by simp, by simp⟩, fun h => by have := hdl _ h; simp [putC] at this; omega, fun h => by have := hdl _ h; simp [putC] at this, fun b e => ⟨hd b e, by have := hvl b e; simp [putC]; omega⟩⟩, tbl⟩
theorem put_low {w W w5 : World} {p : Nat} {w2 : World} {vv : Value} {M : List (Int × Int)} (hb : Below w.heap.size w W) (hw : w.heap.size ≤ w2.heap.size) (hk : Keeps W w5 (PtM (putC w2 p vv M))) : Below w.heap.size w w5 := by
 have hz := hb.size; refine ⟨hk.os.trans hb.os, hk.tape.trans hb.tape, hk.output.trans hb.output, Nat.le_trans hb.size hk.size, fun b hlt => (hk.block b (by omega) fun h => ?_).trans (hb.block b hlt)⟩; rcases h with h | h
 ·have h : b = w2.heap.size + 1 := h
  omega
 ·have h : b = w2.heap.size := h
  omega
theorem putC_cells {W w2 : World} {p : Nat} {r : Option Nat} {M : List (Int × Int)} {D : Nat → Prop} {S : Sto} {F : List (Int × Int)} {need : Int} (h : PtAt W (putC w2 p (.map r) M) D S F need) :
 W.cell? ⟨w2.heap.size + 1, 0, none⟩ = some (.pointer (some ⟨p, 0, none⟩)) ∧ W.cell? ⟨w2.heap.size + 1, 1, none⟩ = some (.map r) ∧ W.cell? ⟨w2.heap.size + 1, 2, none⟩ = some (.map (some w2.heap.size)) ∧ W.cell? ⟨w2.heap.size + 1, 3, none⟩ = some (.int .i64 need) := h.cells
theorem sto_Put_check {S : Sto} {D : Nat → Prop} {p : Nat} (w : World) (hS : StoAt w D p S) (t : Tm) (v : Value) (r : Option Nat) (P : Nat → Prop) (M : List (Int × Int)) (hM : t.size ≤ 1000000) (h1 : IsTm w P v t) (hv : VMap w (.map r) M) (hd : ∀ b, Value.map r = .map (some b) → ¬ D b)
 (hc : checkT t ≠ 0) :
 Calls Try.prog 17 #[.pointer (some ⟨p, 0, none⟩), v, .map r] w fun e w' => e = .returned (.tuple #[.int .i64 0, .int .i64 (checkT t)]) ∧ Below w.heap.size w w' := by
 have b1 : (checkT t != 0) = true := by simpa using hc
 clear hc; replace h1 := h1.lt; obtain ⟨a, cap, rfl⟩ := h1.form; have hb0 := below_new w (rowT t a cap); have hz0 : (w.alloc (rowT t a cap)).heap.size = w.heap.size + 1 := by simp
 have hrow : (w.alloc (rowT t a cap)).heap[w.heap.size]? = some (rowT t a cap) := heap_alloc_new w _
 have hvl : ∀ b, Value.map r = .map (some b) → b < w.heap.size := fun b e => by
  rcases hv with ⟨h, -⟩ | ⟨b', h, hm⟩
  ·rw [e] at h; cases h
  ·rw [e] at h
   simp only [Value.map.injEq, Option.some.injEq] at h; rw [h]; exact hm.lt
 obtain ⟨x0, x1, x2, x3⟩ := row4 hrow; have H1 := Lib.hid h1; have HB := Lib.hid hb0; have HR := Lib.hid hrow; have HS := Lib.hid hS; have HV := Lib.hid hv; have HD := Lib.hid hd; have HVL := Lib.hid hvl; have HM := Lib.hid hM; clear h1 hb0 hz0 hrow hS hv hd hM hvl
 go_enter Try.func17, Try.ntmps17
 go_wp2_with fail
 refine (tm_Check t _ _ _ (by have := HM.out; omega) (H1.out.below HB.out)).mono ?_; rintro e2 w2 ⟨rfl, hb2⟩; have HB2 := Lib.hid (HB.out.trans (hb2.mono HB.out.size)); clear hb2 x0 x1 x2 x3; go_wp2; go_ret2; exact ⟨rfl, HB2.out⟩
theorem sto_Put_arg {S : Sto} {D : Nat → Prop} {p : Nat} (w : World) (hS : StoAt w D p S) (t : Tm) (v : Value) (r : Option Nat) (P : Nat → Prop) (M : List (Int × Int)) (hM : t.size ≤ 1000000) (h1 : IsTm w P v t) (hv : VMap w (.map r) M) (hd : ∀ b, Value.map r = .map (some b) → ¬ D b)
 (hc : checkT t = 0) (hx : (cntT (fun n => mget M n) S.cells.length 0 [] t).1 = false) :
 Calls Try.prog 17 #[.pointer (some ⟨p, 0, none⟩), v, .map r] w fun e w' => e = .returned (.tuple #[.int .i64 0, .int .i64 2]) ∧ Below w.heap.size w w' := by
 have HC := Lib.hid hc; have HX := Lib.hid hx; clear hc hx; replace h1 := h1.lt; obtain ⟨a, cap, rfl⟩ := h1.form; have hb0 := below_new w (rowT t a cap); have hz0 : (w.alloc (rowT t a cap)).heap.size = w.heap.size + 1 := by simp
 have hrow : (w.alloc (rowT t a cap)).heap[w.heap.size]? = some (rowT t a cap) := heap_alloc_new w _
 have hvl : ∀ b, Value.map r = .map (some b) → b < w.heap.size := fun b e => by
  rcases hv with ⟨h, -⟩ | ⟨b', h, hm⟩
  ·rw [e] at h; cases h
  ·rw [e] at h
   simp only [Value.map.injEq, Option.some.injEq] at h; rw [h]; exact hm.lt
 obtain ⟨x0, x1, x2, x3⟩ := row4 hrow; have H1 := Lib.hid h1; have HB := Lib.hid hb0; have HR := Lib.hid hrow; have HS := Lib.hid hS; have HV := Lib.hid hv; have HD := Lib.hid hd; have HVL := Lib.hid hvl; have HM := Lib.hid hM; clear h1 hb0 hz0 hrow hS hv hd hM hvl
 go_enter Try.func17, Try.ntmps17
 go_wp2_with fail
 refine (tm_Check t _ _ _ (by have := HM.out; omega) (H1.out.below HB.out)).mono ?_; rintro e2 w2 ⟨rfl, hb2⟩; rw [HC.out]; have hr2 := (hb2.block _ (Array.getElem?_eq_some_iff.1 HR.out).1).trans HR.out; have hb3 := HB.out.trans (hb2.mono HB.out.size); have HR2 := Lib.hid hr2; have HB2 := Lib.hid hb3; have hws : w.heap.size < w2.heap.size := (Array.getElem?_eq_some_iff.1 hr2).1; have h4 := put_four (HS.out.below hb3) (HV.out.below fun b e => hb3.block b (HVL.out b e)) HD.out; have HP4 := Lib.hid h4.1; have HB4 := Lib.hid h4.2; have HR4 := Lib.hid ((h4.2.block _ hws).trans hr2); clear hb2 hr2 hb3 h4 x0 x1 x2 x3
 go_upto_region 7 with (with_reducible show wpList _ _ _ (⟨some 27, _, _, _, _, _⟩ :: _) _ _
                        refine wpList_imap_made rfl _ rfl ?_)
 have hP4 : PtAt ((w2.alloc (.map #[] 0)).alloc (.cells #[.pointer (some ⟨p, 0, none⟩), .map r, .map (some w2.heap.size), .int .i64 0] 102 (0, 0))) (putC w2 p (.map r) M) D S [] 0 := HP4.out; have hB4 : Below w2.heap.size w2 ((w2.alloc (.map #[] 0)).alloc (.cells #[.pointer (some ⟨p, 0, none⟩), .map r, .map (some w2.heap.size), .int .i64 0] 102 (0, 0))) := HB4.out; have hR4 : ((w2.alloc (.map #[] 0)).alloc (.cells #[.pointer (some ⟨p, 0, none⟩), .map r, .map (some w2.heap.size), .int .i64 0] 102 (0, 0))).heap[w.heap.size]? = some (rowT t a cap) := HR4.out; replace HP4 := Lib.hid hP4; replace HB4 := Lib.hid hB4; replace HR4 := Lib.hid hR4; clear hP4 hB4 hR4; generalize (w2.alloc (.map #[] 0)).alloc (.cells #[.pointer (some ⟨p, 0, none⟩), .map r, .map (some w2.heap.size), .int .i64 0] 102 (0, 0)) = W at *; obtain ⟨x0, x1, x2, x3⟩ := row4 HR4.out; have HIN : Hid (IsTm W (fun b => P b ∧ b < w.heap.size) (.agg #[.int .i64 t.k, .int .i64 t.n, .string t.s, .slice a t.args.length cap]) t) := Lib.hid ((H1.out.below HB2.out).below HB4.out)
 have hpm : ∀ b, (P b ∧ b < w.heap.size) → ¬ PtM (putC w2 p (.map r) M) b := fun b hb h => by
  rcases h with h | h
  ·have h : b = w2.heap.size + 1 := h
   omega
  ·have h : b = w2.heap.size := h
   omega
 have HPM := Lib.hid hpm; clear hpm
 go_wp2_with fail
 refine (pt_count (putC w2 p (.map r) M) D S t.size t _ _ [] 0 W (Nat.le_refl _) (by have := HM.out; omega) (check_may HC.out) HP4.out HIN.out HPM.out).mono ?_; rintro e5 w5 ⟨rfl, hp5, hk5⟩; have HB5 := Lib.hid (put_low (HB2.out.trans (HB4.out.mono HB2.out.size)) (by omega) hk5); have HX2 : Hid ((cntT (told (putC w2 p (.map r) M)) S.cells.length 0 [] t).1 = false) := Lib.hid HX.out; rw [HX2.out]; clear hp5 hk5 x0 x1 x2 x3; go_wp2; go_ret2; exact ⟨rfl, HB5.out⟩
theorem sto_Put_full {S : Sto} {D : Nat → Prop} {p : Nat} (w : World) (hS : StoAt w D p S) (t : Tm) (v : Value) (r : Option Nat) (P : Nat → Prop) (M : List (Int × Int)) (hM : t.size ≤ 1000000) (h1 : IsTm w P v t) (hv : VMap w (.map r) M) (hd : ∀ b, Value.map r = .map (some b) → ¬ D b)
 (hl : S.cells.length ≤ 20000000) (hr0 : 0 ≤ S.room) (hr1 : S.room ≤ 16777216) (hc : checkT t = 0) (hx : (cntT (fun n => mget M n) S.cells.length 0 [] t).1 = true) (hf : S.room - S.cells.length < ((cntT (fun n => mget M n) S.cells.length 0 [] t).2.1 : Int)) :
 Calls Try.prog 17 #[.pointer (some ⟨p, 0, none⟩), v, .map r] w fun e w' => e = .returned (.tuple #[.int .i64 0, .int .i64 9]) ∧ Below w.heap.size w w' := by
 have HC := Lib.hid hc; have HX := Lib.hid hx; have HF := Lib.hid hf; have HRL := Lib.hid hl; clear hc hx hf; replace h1 := h1.lt; obtain ⟨a, cap, rfl⟩ := h1.form; have hb0 := below_new w (rowT t a cap); have hz0 : (w.alloc (rowT t a cap)).heap.size = w.heap.size + 1 := by simp
 have hrow : (w.alloc (rowT t a cap)).heap[w.heap.size]? = some (rowT t a cap) := heap_alloc_new w _
 have hvl : ∀ b, Value.map r = .map (some b) → b < w.heap.size := fun b e => by
  rcases hv with ⟨h, -⟩ | ⟨b', h, hm⟩
  ·rw [e] at h; cases h
  ·rw [e] at h
   simp only [Value.map.injEq, Option.some.injEq] at h; rw [h]; exact hm.lt
 obtain ⟨x0, x1, x2, x3⟩ := row4 hrow; have H1 := Lib.hid h1; have HB := Lib.hid hb0; have HR := Lib.hid hrow; have HS := Lib.hid hS; have HV := Lib.hid hv; have HD := Lib.hid hd; have HVL := Lib.hid hvl; have HM := Lib.hid hM; clear h1 hb0 hz0 hrow hS hv hd hM hvl
 go_enter Try.func17, Try.ntmps17
 go_wp2_with fail
 refine (tm_Check t _ _ _ (by have := HM.out; omega) (H1.out.below HB.out)).mono ?_; rintro e2 w2 ⟨rfl, hb2⟩; rw [HC.out]; have hr2 := (hb2.block _ (Array.getElem?_eq_some_iff.1 HR.out).1).trans HR.out; have hb3 := HB.out.trans (hb2.mono HB.out.size); have HR2 := Lib.hid hr2; have HB2 := Lib.hid hb3; have hws : w.heap.size < w2.heap.size := (Array.getElem?_eq_some_iff.1 hr2).1; have h4 := put_four (HS.out.below hb3) (HV.out.below fun b e => hb3.block b (HVL.out b e)) HD.out; have HP4 := Lib.hid h4.1; have HB4 := Lib.hid h4.2; have HR4 := Lib.hid ((h4.2.block _ hws).trans hr2); clear hb2 hr2 hb3 h4 x0 x1 x2 x3
 go_upto_region 7 with (with_reducible show wpList _ _ _ (⟨some 27, _, _, _, _, _⟩ :: _) _ _
                        refine wpList_imap_made rfl _ rfl ?_)
 have hP4 : PtAt ((w2.alloc (.map #[] 0)).alloc (.cells #[.pointer (some ⟨p, 0, none⟩), .map r, .map (some w2.heap.size), .int .i64 0] 102 (0, 0))) (putC w2 p (.map r) M) D S [] 0 := HP4.out; have hB4 : Below w2.heap.size w2 ((w2.alloc (.map #[] 0)).alloc (.cells #[.pointer (some ⟨p, 0, none⟩), .map r, .map (some w2.heap.size), .int .i64 0] 102 (0, 0))) := HB4.out; have hR4 : ((w2.alloc (.map #[] 0)).alloc (.cells #[.pointer (some ⟨p, 0, none⟩), .map r, .map (some w2.heap.size), .int .i64 0] 102 (0, 0))).heap[w.heap.size]? = some (rowT t a cap) := HR4.out; replace HP4 := Lib.hid hP4; replace HB4 := Lib.hid hB4; replace HR4 := Lib.hid hR4; clear hP4 hB4 hR4; generalize (w2.alloc (.map #[] 0)).alloc (.cells #[.pointer (some ⟨p, 0, none⟩), .map r, .map (some w2.heap.size), .int .i64 0] 102 (0, 0)) = W at *; obtain ⟨x0, x1, x2, x3⟩ := row4 HR4.out; have HIN : Hid (IsTm W (fun b => P b ∧ b < w.heap.size) (.agg #[.int .i64 t.k, .int .i64 t.n, .string t.s, .slice a t.args.length cap]) t) := Lib.hid ((H1.out.below HB2.out).below HB4.out)
 have hpm : ∀ b, (P b ∧ b < w.heap.size) → ¬ PtM (putC w2 p (.map r) M) b := fun b hb h => by
  rcases h with h | h
  ·have h : b = w2.heap.size + 1 := h
   omega
  ·have h : b = w2.heap.size := h
   omega
 have HPM := Lib.hid hpm; clear hpm
 go_wp2_with fail
 refine (pt_count (putC w2 p (.map r) M) D S t.size t _ _ [] 0 W (Nat.le_refl _) (by have := HM.out; omega) (check_may HC.out) HP4.out HIN.out HPM.out).mono ?_; rintro e5 w5 ⟨rfl, hp5, hk5⟩; have HB5 := Lib.hid (put_low (HB2.out.trans (HB4.out.mono HB2.out.size)) (by omega) hk5); have HX2 : Hid ((cntT (told (putC w2 p (.map r) M)) S.cells.length 0 [] t).1 = true) := Lib.hid HX.out; rw [HX2.out]
 have hr5 := (hk5.block w.heap.size (Array.getElem?_eq_some_iff.1 HR4.out).1 fun h => by
  rcases h with h | h
  ·have h : w.heap.size = w2.heap.size + 1 := h
   omega
  ·have h : w.heap.size = w2.heap.size := h
   omega).trans HR4.out
 have HR5 := Lib.hid hr5; have HP5 := Lib.hid hp5; have HK5 := Lib.hid hk5; clear hp5 hk5 hr5 x0 x1 x2 x3; go_wp2; refine wp_region_rest (by kernel_rfl) ?_; have HP6 := Lib.hid (HP5.out.below (Below.refl w5.heap.size w5).drew); have HB6 := Lib.hid HB5.out.drew; have hR6 : w5.drew.heap[w.heap.size]? = some (rowT t a cap) := HR5.out; have HR6 := Lib.hid hR6; have HK6 := Lib.hid (HK5.out.trans (Keeps.of (Below.refl w5.heap.size w5).drew) (M' := fun _ => False) fun b h => h.elim); clear hR6; generalize w5.drew = W6 at *; obtain ⟨c0, c1, c2, c3⟩ := putC_cells HP6.out; obtain ⟨cv6, bv6, A6, hrow6⟩ := HP6.out.sto; obtain ⟨q6, cp6, rfl⟩ := own_form hrow6.own; have hrow6' : W6.heap[p]? = _ := hrow6.row; obtain ⟨y0, y1, y2⟩ := row3 hrow6'; have hcn : ((cntT (told (putC w2 p (.map r) M)) S.cells.length 0 [] t).2.1 : Nat) ≤ 1000000 := by have := cntT_le (told (putC w2 p (.map r) M)) S.cells.length t 0 []; have := HM.out; omega
 have HCN : Hid ((cntT (told (putC w2 p (.map r) M)) S.cells.length 0 [] t).2.1 = (cntT (fun n => mget M n) S.cells.length 0 [] t).2.1) := Lib.hid rfl; rw [HCN.out] at c3 hcn; have hbf : decide (S.room - (S.cells.length : Int) < ((cntT (fun n => mget M n) S.cells.length 0 [] t).2.1 : Int)) = true := by have := HF.out; simp; omega
 clear hrow6 hrow6'; generalize (cntT (fun n => mget M n) S.cells.length 0 [] t).2.1 = need at *; refine rest_chainP (fun u => u = W6) 0 13 (.soft 0 (.soft 1 (.soft 2 (.soft 3 (.soft 4 (.soft 5 (.soft 6 (.soft 7 (.soft 8 (.soft 9 (.soft 10 (.soft 11 (.soft 12 .nil))))))))))))) (.soft _ (.soft _ (.soft _ (.soft _ (.soft _ (.soft _ (.soft _ (.soft _ (.soft _ (.soft _ (.soft _ (.soft _ (.soft _ .nil))))))))))))) ⟨rfl, ⟨rfl, ⟨rfl, ⟨rfl, ⟨rfl, ⟨rfl, ⟨rfl, ⟨rfl, ⟨rfl, ⟨rfl, ⟨rfl, ⟨rfl, ⟨rfl, trivial⟩⟩⟩⟩⟩⟩⟩⟩⟩⟩⟩⟩⟩ (by kernel_rfl) (by kernel_rfl) (by kernel_rfl) (by kernel_rfl) (.inl rfl) rfl ?_; refine cS (a1 := ?ma138) ?mh138 ?mr138
 case mh138 =>
  intro u hu E hE; subst hu; go_wp2; rfl
 refine cS (a1 := ?ma139) ?mh139 ?mr139
 case mh139 =>
  intro u hu E hE; subst hu; go_wp2; rfl
 refine cS (a1 := ?ma140) ?mh140 ?mr140
 case mh140 =>
  intro u hu E hE; subst hu; go_wp2; rfl
 refine chainP_nck _ _ rfl rfl rfl ?_; simp only [Act.put, zA, zB, zC, zD, zE, zF, zG, Nat.reduceAdd]; refine cS (a1 := ?ma141) ?mh141 ?mr141
 case mh141 =>
  intro u hu E hE; subst hu; go_wp2; rfl
 refine cS (a1 := ?ma142) ?mh142 ?mr142
 case mh142 =>
  intro u hu E hE; subst hu; go_wp2; rfl
 refine cS (a1 := ?ma143) ?mh143 ?mr143
 case mh143 =>
  intro u hu E hE; subst hu; go_wp2; rfl
 refine chainP_nck _ _ rfl rfl rfl ?_; simp only [Act.put, zA, zB, zC, zD, zE, zF, zG, Nat.reduceAdd]; refine cS (a1 := ?ma144) ?mh144 ?mr144
 case mh144 =>
  intro u hu E hE; subst hu; go_wp2; rfl
 refine cS (a1 := ?ma145) ?mh145 ?mr145
 case mh145 =>
  intro u hu E hE; subst hu; go_wp2; rfl
 refine cS (a1 := ?ma146) ?mh146 ?mr146
 case mh146 =>
  intro u hu E hE; subst hu; go_wp2; rfl
 refine cS (a1 := ?ma147) ?mh147 ?mr147
 case mh147 =>
  intro u hu E hE; subst hu; go_wp2; rfl
 refine cS (a1 := ?ma148) ?mh148 ?mr148
 case mh148 =>
  intro u hu E hE; subst hu; go_wp2; rfl
 refine chainP_nil ?_; refine rest_end (by decide) ?_; go_wp2; go_ret2; exact ⟨rfl, HB6.out⟩
def maxA (T : Int) (L : List Int) : Int := L.foldl max T
def fixTop : Int → List SCell → List SCell
 | _, [] => []
 | T, c :: l => { c with top := maxA T c.args } :: fixTop (maxA T c.args) l
def runTop (T : Int) (l : List SCell) : Int := l.foldl (fun T c => maxA T c.args) T
theorem fixTop_len : ∀ (T : Int) (l : List SCell), (fixTop T l).length = l.length
 | _, [] => rfl
 | T, c :: l => by simp [fixTop, fixTop_len]
theorem fixTop_snoc : ∀ (T : Int) (l : List SCell) (c : SCell), fixTop T (l ++ [c]) = fixTop T l ++ [{ c with top := maxA (runTop T l) c.args }]
 | T, [], c => rfl
 | T, x :: l, c => by simp only [List.cons_append, fixTop, fixTop_snoc]; rfl
theorem runTop_snoc (T : Int) (l : List SCell) (c : SCell) : runTop T (l ++ [c]) = maxA (runTop T l) c.args := by simp [runTop]
theorem maxA_snoc (T : Int) (l : List Int) (x : Int) : maxA T (l ++ [x]) = max (maxA T l) x := by simp [maxA]
def topS (S : Sto) (T : Int) (new : List SCell) (j : Nat) : Sto := ⟨S.room, S.cells ++ (fixTop T (new.take j) ++ new.drop j), S.bonds⟩
theorem topS_zero (S : Sto) (T : Int) (new : List SCell) : topS S T new 0 = plusS S new := by simp [topS, plusS, fixTop]
theorem topS_len (S : Sto) (T : Int) (new : List SCell) (j : Nat) (hj : j ≤ new.length) : (topS S T new j).cells.length = S.cells.length + new.length := by
 simp only [topS, List.length_append, fixTop_len, List.length_take, List.length_drop]; omega
theorem topS_at (S : Sto) (T : Int) (new : List SCell) (j : Nat) (hj : j < new.length) : (topS S T new j).cells[S.cells.length + j]? = some new[j] := by
 have h1 : (fixTop T (new.take j)).length = j := by rw [fixTop_len, List.length_take]; omega
 simp only [topS]; rw [List.getElem?_append_right (by omega), Nat.add_sub_cancel_left, List.getElem?_append_right (by omega), h1, Nat.sub_self, List.getElem?_drop, Nat.add_zero, List.getElem?_eq_getElem hj]
def setTop (S : Sto) (v : Nat) (x : Int) : List SCell := match S.cells[v]? with
 | none => S.cells
 | some c => S.cells.set v { c with top := x }
theorem setTop_at {S : Sto} {v : Nat} {x : Int} (h : v < S.cells.length) : setTop S v x = S.cells.set v { S.cells[v] with top := x } := by
 unfold setTop; rw [List.getElem?_eq_getElem h]
theorem topS_next (S : Sto) (T : Int) (new : List SCell) (j : Nat) (hj : j < new.length) : (⟨(topS S T new j).room, setTop (topS S T new j) (S.cells.length + j) (maxA (runTop T (new.take j)) new[j].args), (topS S T new j).bonds⟩ : Sto) = topS S T new (j + 1) := by
 have hl : S.cells.length + j < (topS S T new j).cells.length := by rw [topS_len _ _ _ _ (by omega)]; omega
 have hc : (topS S T new j).cells[S.cells.length + j]'hl = new[j] := by
  have := topS_at S T new j hj; rw [List.getElem?_eq_getElem hl] at this; exact Option.some.inj this
 have h1 : (fixTop T (new.take j)).length = j := by rw [fixTop_len, List.length_take]; omega
 rw [setTop_at hl, hc]; show (⟨S.room, _, S.bonds⟩ : Sto) = ⟨S.room, _, S.bonds⟩
 congr 1
 show (S.cells ++ (fixTop T (new.take j) ++ new.drop j)).set _ _ = S.cells ++ (fixTop T (new.take (j + 1)) ++ new.drop (j + 1)); rw [List.set_append_right _ _ (by omega), Nat.add_sub_cancel_left, List.set_append_right _ _ (by omega), h1, Nat.sub_self, List.take_succ_eq_append_getElem hj, fixTop_snoc, List.drop_eq_getElem_cons hj]; simp only [List.set_cons_zero, List.append_assoc, List.cons_append, List.nil_append]
theorem topS_all (S : Sto) (T : Int) (new : List SCell) : topS S T new new.length = plusS S (fixTop T new) := by simp [topS, plusS]
theorem StoRow.setTop {w : World} {D : Nat → Prop} {p : Nat} {S : Sto} {bv : Value} {A : Nat → Prop} {g cap : Nat} (h : StoRow w D p S (.slice (some ⟨g, 0, none⟩) S.cells.length cap) bv A) (v : Nat) (hv : v < S.cells.length) (x : Int) :
 StoRow (w.setCell ⟨g, v * 6 + 5, none⟩ (.int .i64 x)) D p ⟨S.room, Tms.setTop S v x, S.bonds⟩ (.slice (some ⟨g, 0, none⟩) S.cells.length cap) bv A ∧ Keeps w (w.setCell ⟨g, v * 6 + 5, none⟩ (.int .i64 x)) D := by
 have hp : p ≠ g := fun e => h.pc (by rw [e]; rfl)
 have hb : ∀ k, bv.ownBlock = some k → k ≠ g := fun k hk e => h.ne g rfl (by rw [← e]; exact hk)
 have hs := h.own.stored rfl v hv 5 (by decide) (.int .i64 x) { S.cells[v] with top := x } (by rintro cs ⟨av, rfl, hav⟩; exact ⟨av, rfl, hav⟩); refine ⟨⟨(Below.heap_setCell _ _ _ _ hp).trans h.row, ?_, h.bonds.keep (by simp [World.setCell]) fun b hlt hq => ?_, h.ne, h.pc, h.pb, h.ap, h.ab, h.dp, h.dc, h.db, h.da, fun b hb => by have := h.dl b hb; simpa [World.setCell] using this⟩, rfl, rfl, rfl, by simp [World.setCell], fun b _ hb => Below.heap_setCell _ _ _ _ fun e => hb (by have e : b = g := e; rw [e]; exact h.dc g rfl)⟩
 ·rw [setTop_at hv]; exact hs
 ·rcases hq with hq | hq
  ·exact hq.elim
  ·exact Below.heap_setCell _ _ _ _ (hb b hq)
theorem PtAt.setTop {w : World} {C : PtC} {D : Nat → Prop} {S : Sto} {F : List (Int × Int)} {need : Int} {g cap : Nat} {bv : Value} {A : Nat → Prop} (h : PtAt w C D S F need) (hr : StoRow w D C.p S (.slice (some ⟨g, 0, none⟩) S.cells.length cap) bv A) (v : Nat) (hv : v < S.cells.length) (x : Int) :
 PtAt (w.setCell ⟨g, v * 6 + 5, none⟩ (.int .i64 x)) C D ⟨S.room, Tms.setTop S v x, S.bonds⟩ F need ∧ Keeps w (w.setCell ⟨g, v * 6 + 5, none⟩ (.int .i64 x)) D := by
 obtain ⟨h1, h2⟩ := hr.setTop v hv x; exact ⟨⟨(h2.block _ h.plt h.dpb).trans h.prow, ⟨_, _, _, h1⟩, h.vars.below fun b e => h2.block b (h.vlt b e) (h.dvb b e).1, h.fresh.below (h2.block _ h.fresh.lt h.dfb), h.dpb, h.dfb, h.dvb⟩, h2⟩
def TopRel (C : PtC) (D : Nat → Prop) (S : Sto) (T : Int) (new : List SCell) (F : List (Int × Int)) (need : Int) (W : World) (v12 v13 : Value) (wr : World) : Prop :=
 ∃ j : Nat, j ≤ new.length ∧ v12 = .int .i64 (runTop T (new.take j)) ∧ v13 = .int .i64 ((S.cells.length + j : Nat) : Int) ∧ PtAt wr C D (topS S T new j) F need ∧ Keeps W wr D
def MaxRel (T : Int) (L : List Int) (v12 v84 : Value) : Prop := ∃ i : Nat, i ≤ L.length ∧ v84 = .int .i64 i ∧ v12 = .int .i64 (maxA T (L.take i))
def NewF (told : Int → Option Int) (F : List (Int × Int)) : Prop := (F.map (·.1)).Nodup ∧ ∀ p ∈ F, told p.1 = none
theorem newF_nil (told : Int → Option Int) : NewF told [] := ⟨List.nodup_nil, by simp⟩
theorem mget_none : ∀ {l : List (Int × Int)} {n : Int}, mget l n = none ↔ ∀ p ∈ l, p.1 ≠ n
 | [], n => by simp [mget]
 | p :: l, n => by
   simp only [mget]
   by_cases h : n = p.1
   ·simp [h]
   ·rw [if_neg h, mget_none]
    simp only [List.mem_cons, forall_eq_or_imp]; exact ⟨fun h' => ⟨fun e => h e.symm, h'⟩, fun h' => h'.2⟩
theorem newF_snoc {told : Int → Option Int} {F : List (Int × Int)} {n x : Int} (h : NewF told F) (h1 : told n = none) (h2 : mget F n = none) : NewF told (F ++ [(n, x)]) := by
 refine ⟨?_, fun p hp => ?_⟩
 ·rw [List.map_append]
  refine List.nodup_append.2 ⟨h.1, by simp, fun a ha b hb => ?_⟩; simp only [List.map_cons, List.map_nil, List.mem_singleton] at hb; obtain ⟨p, hp, rfl⟩ := List.mem_map.1 ha; rw [hb]; exact mget_none.1 h2 p hp
 ·rcases List.mem_append.1 hp with hp | hp
  ·exact h.2 p hp
  ·simp only [List.mem_singleton] at hp; rw [hp]; exact h1
mutual
theorem putT_new (told : Int → Option Int) (T0 : Int) : ∀ (t : Tm) (b : Nat) (F : List (Int × Int)), NewF told F → NewF told (putT told T0 b F t).2.2
 | .mk k n s a, b, F, h => by
   by_cases k1 : k = 1
   ·rw [putT_var (t := .mk k n s a) k1]
    cases h1 : told (Tm.mk k n s a).n with
    | some x => exact h
    | none =>
      cases h2 : mget F (Tm.mk k n s a).n with
      | some x => exact h
      | none => exact newF_snoc h h1 h2
   ·by_cases k4 : k = 4
    ·rw [putT_comp (t := .mk k n s a) k4]; exact putL_new told T0 a _ _ h
    ·rw [putT_leaf (t := .mk k n s a) k1 k4]; exact h
theorem putL_new (told : Int → Option Int) (T0 : Int) : ∀ (l : List Tm) (b : Nat) (F : List (Int × Int)), NewF told F → NewF told (putL told T0 b F l).2.2
 | [], b, F, h => by simpa [putL] using h
 | t :: l, b, F, h => by simp only [putL]; exact putL_new told T0 l _ _ (putT_new told T0 t b F h)
end
def RngRel (p : Nat) (D : Nat → Prop) (S : Sto) (M F : List (Int × Int)) (r fb b : Nat) (W : World) (k : Nat) (wr : World) : Prop :=
 ∃ done rest, F.Perm (done ++ rest) ∧ rest.length = k ∧ ItAt wr r fb rest ∧ IMapB wr b (M ++ done) ∧ StoAt wr D p S ∧ Keeps W wr (fun x => x = b)
theorem mget_app {l m : List (Int × Int)} {n : Int} (h : mget l n = none) : mget (l ++ m) n = mget m n := by
 induction l with
 | nil => rfl
 | cons p l ih =>
   simp only [mget] at h
   split at h
   ·cases h
   ·rename_i hne
    simp only [List.cons_append, mget, if_neg hne]; exact ih h
theorem rng_mset {M F done rest : List (Int × Int)} {q : Int × Int} {l' : List (Int × Int)} (hF : NewF (fun n => mget M n) F) (h : F.Perm (done ++ rest)) (hq : rest.Perm (q :: l')) : mset q.1 q.2 (M ++ done) = M ++ (done ++ [q]) ∧ F.Perm ((done ++ [q]) ++ l') := by
 have hp : F.Perm ((done ++ [q]) ++ l') := h.trans (by rw [List.append_assoc]; exact hq.append_left done); have hn := (hp.map (·.1)).nodup_iff.1 hF.1; have hm : mget M q.1 = none := hF.2 q (hp.mem_iff.2 (by simp))
 have hd : mget done q.1 = none := mget_none.2 fun p hpm e => by
  rw [List.append_assoc, List.map_append] at hn; have := (List.nodup_append.1 hn).2.2 p.1 (List.mem_map.2 ⟨p, hpm, rfl⟩) q.1 (by simp); exact this e
 refine ⟨?_, hp⟩; rw [mset_new (by rw [mget_app hm]; exact hd), List.append_assoc]
def putR (S : Sto) (M : List (Int × Int)) (t : Tm) : Int × List SCell × List (Int × Int) := putT (fun n => mget M n) (lastTop S.cells) S.cells.length [] t
def putS (S : Sto) (M : List (Int × Int)) (t : Tm) : Sto := plusS S (fixTop (lastTop S.cells) (putR S M t).2.1)
def PutOk (S : Sto) (D : Nat → Prop) (p : Nat) (r : Option Nat) (M : List (Int × Int)) (t : Tm) (w : World) (e : Ending) (w' : World) : Prop :=
 e = .returned (.tuple #[.int .i64 (putR S M t).1, .int .i64 0]) ∧ ∃ D', StoAt w' D' p (putS S M t) ∧ Keeps w w' (fun b => D b ∨ r = some b) ∧ (∀ b, D' b → D b ∨ (w.heap.size ≤ b ∧ b < w'.heap.size)) ∧ ∀ b, r = some b → ∃ F', (putR S M t).2.2.Perm F' ∧ IMapB w' b (M ++ F')
theorem put_keeps {w w2 W w7 w8 : World} {D : Nat → Prop} {p : Nat} {vv : Value} {M : List (Int × Int)} (h1 : Below w.heap.size w w2) (h2 : Below w2.heap.size w2 W) (h3 : Keeps W w7 (PtM (putC w2 p vv M))) (h4 : Keeps w7 w8 (fun b => D b ∨ b = (putC w2 p vv M).fb)) : Keeps w w8 D := by
 have z1 := h1.size; have z2 := h2.size; have z3 := h3.size; refine ⟨h4.os.trans (h3.os.trans (h2.os.trans h1.os)), h4.tape.trans (h3.tape.trans (h2.tape.trans h1.tape)), h4.output.trans (h3.output.trans (h2.output.trans h1.output)), by have := h4.size; omega, fun b hlt hd => ?_⟩; have e : (putC w2 p vv M).fb = w2.heap.size := rfl; have e2 : (putC w2 p vv M).pb = w2.heap.size + 1 := rfl; exact (h4.block b (by omega) fun h => h.elim hd fun h => by omega).trans ((h3.block b (by omega) fun h => h.elim (fun h => by omega) fun h => by omega).trans ((h2.block b (by omega)).trans (h1.block b hlt)))
theorem put_grown {w w2 W w7 w8 : World} {D D8 : Nat → Prop} {p : Nat} {vv : Value} {M : List (Int × Int)} (h1 : Below w.heap.size w w2) (h2 : Below w2.heap.size w2 W) (h3 : Keeps W w7 (PtM (putC w2 p vv M))) (h4 : ∀ b, D8 b → D b ∨ (w7.heap.size ≤ b ∧ b < w8.heap.size)) : ∀ b, D8 b → D b ∨ (w.heap.size ≤ b ∧ b < w8.heap.size) := fun b hb => by
 have z1 := h1.size; have z2 := h2.size; have z3 := h3.size; rcases h4 b hb with h | h
 ·exact .inl h
 ·exact .inr ⟨by omega, h.2⟩
theorem StoAt.dl' {w : World} {D : Nat → Prop} {S : Sto} {p : Nat} (h : StoAt w D p S) : ∀ b, D b → b < w.heap.size := by obtain ⟨cv, bv, A, h⟩ := h; exact h.dl
theorem rng_next {p : Nat} {D : Nat → Prop} {S : Sto} {M F done : List (Int × Int)} {ri fb b : Nat} {W wr wn w9 : World} {q : Int × Int} {l' : List (Int × Int)} (hpm : F.Perm ((done ++ [q]) ++ l')) (hin : ItNow wn ri fb q l') (hgn : wr.grownBy wn (some ri)) (hm9 : IMapB w9 b (M ++ (done ++ [q]))) (hg9 : wn.grownBy w9 (some b)) (hso : StoAt wr D p S) (hk : Keeps W wr (fun x => x = b))
 (hnb : b ≠ fb) (hnr : ri ≠ b) (hdb : ¬ D b) (hrd : ¬ D ri) (hri : W.heap.size ≤ ri) : RngRel p D S M F ri fb b W l'.length w9 := by
 have h1 := hin.at.lt; have k9 : ∀ x, x < wn.heap.size → x ≠ b → w9.heap[x]? = wn.heap[x]? := fun x hx hb => hg9.block x hx fun e => hb (Option.some.inj e)
 have kn : ∀ x, x < wr.heap.size → x ≠ ri → wn.heap[x]? = wr.heap[x]? := fun x hx hb => hgn.block x hx fun e => hb (Option.some.inj e)
 refine ⟨done ++ [q], l', hpm, rfl, hin.at.keep (k9 _ h1.1 hnr) (k9 _ h1.2.1 fun e => hnb e.symm), hm9, hso.keep (Nat.le_trans hgn.size hg9.size) fun x hx hd => (k9 x (by have := hgn.size; omega) fun e => hdb (e ▸ hd)).trans (kn x hx fun e => hrd (e ▸ hd)), ?_⟩; refine hk.trans (M' := fun x => x = b ∨ x = ri) ⟨hg9.os.trans hgn.os, hg9.tape.trans hgn.tape, hg9.output.trans hgn.output, Nat.le_trans hgn.size hg9.size, fun x hx hn => (k9 x (by have := hgn.size; omega) fun e => hn (.inl e)).trans (kn x hx fun e => hn (.inr e))⟩ fun x hx => ?_
 rcases hx with hx | hx
 ·exact .inl hx
 ·exact .inr (by omega)
theorem put_ok_some {S : Sto} {D D8 : Nat → Prop} {p b : Nat} {M : List (Int × Int)} {t : Tm} {w w8 wr wl : World} {at8 T0 : Int} {new : List SCell} {F8 done rest : List (Int × Int)} (hR : (at8, new, F8) = putR S M t) (hT : T0 = lastTop S.cells) (h0 : rest = []) (hp : F8.Perm (done ++ rest)) (hm : IMapB wl b (M ++ done)) (hs : StoAt wl D8 p (plusS S (fixTop T0 new))) (hk8 : Keeps w w8 D) (hk : Keeps w8 wr D8) (hkb : Keeps wr wl (fun x => x = b))
 (hg : ∀ b, D8 b → D b ∨ (w.heap.size ≤ b ∧ b < w8.heap.size)) : PutOk S D p (some b) M t w (.returned (.tuple #[.int .i64 at8, .int .i64 0])) wl := by
 have hz := hk.size; have hz2 := hkb.size; have hz8 := hk8.size; refine ⟨by rw [← hR], D8, by unfold putS; rw [← hR, ← hT]; exact hs, ?_, fun b hb => ?_, fun b' e => ?_⟩
 ·have h := hk8.trans hk fun b hb => (hg b hb).imp_right fun h => h.1
  refine ⟨hkb.os.trans h.os, hkb.tape.trans h.tape, hkb.output.trans h.output, Nat.le_trans h.size hz2, fun x hlt hn => (hkb.block x (by omega) fun e => hn (.inr (by rw [e]))).trans (h.block x hlt fun e => hn (.inl e))⟩
 ·rcases hg b hb with h | h
  ·exact .inl h
  ·exact .inr ⟨h.1, by omega⟩
 ·obtain rfl := Option.some.inj e
  subst h0; rw [List.append_nil] at hp; exact ⟨done, by rw [← hR]; exact hp, hm⟩
theorem put_ok_none {S : Sto} {D D8 : Nat → Prop} {p : Nat} {M : List (Int × Int)} {t : Tm} {w w8 wr : World} {at8 T0 : Int} {new : List SCell} {F8 : List (Int × Int)} (hR : (at8, new, F8) = putR S M t) (hT : T0 = lastTop S.cells) (hs : StoAt wr D8 p (plusS S (fixTop T0 new))) (hk8 : Keeps w w8 D) (hk : Keeps w8 wr D8)
 (hg : ∀ b, D8 b → D b ∨ (w.heap.size ≤ b ∧ b < w8.heap.size)) : PutOk S D p none M t w (.returned (.tuple #[.int .i64 at8, .int .i64 0])) wr := by
 have hz := hk.size; refine ⟨by rw [← hR], D8, by unfold putS; rw [← hR, ← hT]; exact hs, ?_, fun b hb => ?_, fun b e => by cases e⟩
 ·have h := hk8.trans hk fun b hb => (hg b hb).imp_right fun h => h.1
  exact ⟨h.os, h.tape, h.output, h.size, fun b hlt hb => h.block b hlt fun e => hb (.inl e)⟩
 ·rcases hg b hb with h | h
  ·exact .inl h
  ·exact .inr ⟨h.1, by omega⟩
theorem sto_Put_ok {S : Sto} {D : Nat → Prop} {p : Nat} (w : World) (hS : StoAt w D p S) (t : Tm) (v : Value) (r : Option Nat) (P : Nat → Prop) (M : List (Int × Int)) (hM : t.size ≤ 1000000) (h1 : IsTm w P v t) (hv : VMap w (.map r) M) (hd : ∀ b, Value.map r = .map (some b) → ¬ D b)
 (hPD : ∀ b, P b → ¬ D b) (hl : S.cells.length + t.size ≤ 20000000) (hr0 : 0 ≤ S.room) (hr1 : S.room ≤ 16777216) (hc : checkT t = 0) (hx : (cntT (fun n => mget M n) S.cells.length 0 [] t).1 = true) (hf : ((cntT (fun n => mget M n) S.cells.length 0 [] t).2.1 : Int) ≤ S.room - S.cells.length) :
 Calls Try.prog 17 #[.pointer (some ⟨p, 0, none⟩), v, .map r] w (PutOk S D p r M t w) := by
 have HC := Lib.hid hc; have HX := Lib.hid hx; have HF := Lib.hid hf; have HRL := Lib.hid hl; have hl0 : S.cells.length ≤ 20000000 := by omega
 have HPD := Lib.hid hPD; clear hc hx hf hPD; replace h1 := h1.lt; obtain ⟨a, cap, rfl⟩ := h1.form; have hb0 := below_new w (rowT t a cap); have hz0 : (w.alloc (rowT t a cap)).heap.size = w.heap.size + 1 := by simp
 have hrow : (w.alloc (rowT t a cap)).heap[w.heap.size]? = some (rowT t a cap) := heap_alloc_new w _
 have hvl : ∀ b, Value.map r = .map (some b) → b < w.heap.size := fun b e => by
  rcases hv with ⟨h, -⟩ | ⟨b', h, hm⟩
  ·rw [e] at h; cases h
  ·rw [e] at h
   simp only [Value.map.injEq, Option.some.injEq] at h; rw [h]; exact hm.lt
 obtain ⟨x0, x1, x2, x3⟩ := row4 hrow; have H1 := Lib.hid h1; have HB := Lib.hid hb0; have HR := Lib.hid hrow; have HS := Lib.hid hS; have HV := Lib.hid hv; have HD := Lib.hid hd; have HVL := Lib.hid hvl; have HM := Lib.hid hM; clear h1 hb0 hz0 hrow hS hv hd hM hvl
 go_enter Try.func17, Try.ntmps17
 go_wp2_with fail
 refine (tm_Check t _ _ _ (by have := HM.out; omega) (H1.out.below HB.out)).mono ?_; rintro e2 w2 ⟨rfl, hb2⟩; rw [HC.out]; have hr2 := (hb2.block _ (Array.getElem?_eq_some_iff.1 HR.out).1).trans HR.out; have hb3 := HB.out.trans (hb2.mono HB.out.size); have HR2 := Lib.hid hr2; have HB2 := Lib.hid hb3; have hws : w.heap.size < w2.heap.size := (Array.getElem?_eq_some_iff.1 hr2).1; have h4 := put_four (HS.out.below hb3) (HV.out.below fun b e => hb3.block b (HVL.out b e)) HD.out; have HP4 := Lib.hid h4.1; have HB4 := Lib.hid h4.2; have HR4 := Lib.hid ((h4.2.block _ hws).trans hr2); clear hb2 hr2 hb3 h4 x0 x1 x2 x3
 go_upto_region 7 with (with_reducible show wpList _ _ _ (⟨some 27, _, _, _, _, _⟩ :: _) _ _
                        refine wpList_imap_made rfl _ rfl ?_)
 have hP4 : PtAt ((w2.alloc (.map #[] 0)).alloc (.cells #[.pointer (some ⟨p, 0, none⟩), .map r, .map (some w2.heap.size), .int .i64 0] 102 (0, 0))) (putC w2 p (.map r) M) D S [] 0 := HP4.out; have hB4 : Below w2.heap.size w2 ((w2.alloc (.map #[] 0)).alloc (.cells #[.pointer (some ⟨p, 0, none⟩), .map r, .map (some w2.heap.size), .int .i64 0] 102 (0, 0))) := HB4.out; have hR4 : ((w2.alloc (.map #[] 0)).alloc (.cells #[.pointer (some ⟨p, 0, none⟩), .map r, .map (some w2.heap.size), .int .i64 0] 102 (0, 0))).heap[w.heap.size]? = some (rowT t a cap) := HR4.out; replace HP4 := Lib.hid hP4; replace HB4 := Lib.hid hB4; replace HR4 := Lib.hid hR4; clear hP4 hB4 hR4; generalize (w2.alloc (.map #[] 0)).alloc (.cells #[.pointer (some ⟨p, 0, none⟩), .map r, .map (some w2.heap.size), .int .i64 0] 102 (0, 0)) = W at *; obtain ⟨x0, x1, x2, x3⟩ := row4 HR4.out; have HIN : Hid (IsTm W (fun b => P b ∧ b < w.heap.size) (.agg #[.int .i64 t.k, .int .i64 t.n, .string t.s, .slice a t.args.length cap]) t) := Lib.hid ((H1.out.below HB2.out).below HB4.out)
 have hpm : ∀ b, (P b ∧ b < w.heap.size) → ¬ PtM (putC w2 p (.map r) M) b := fun b hb h => by
  rcases h with h | h
  ·have h : b = w2.heap.size + 1 := h
   omega
  ·have h : b = w2.heap.size := h
   omega
 have HPM := Lib.hid hpm; clear hpm
 go_wp2_with fail
 refine (pt_count (putC w2 p (.map r) M) D S t.size t _ _ [] 0 W (Nat.le_refl _) (by have := HM.out; omega) (check_may HC.out) HP4.out HIN.out HPM.out).mono ?_; rintro e5 w5 ⟨rfl, hp5, hk5⟩; have HB5 := Lib.hid (put_low (HB2.out.trans (HB4.out.mono HB2.out.size)) (by omega) hk5); have HX2 : Hid ((cntT (told (putC w2 p (.map r) M)) S.cells.length 0 [] t).1 = true) := Lib.hid HX.out; rw [HX2.out]
 have hr5 := (hk5.block w.heap.size (Array.getElem?_eq_some_iff.1 HR4.out).1 fun h => by
  rcases h with h | h
  ·have h : w.heap.size = w2.heap.size + 1 := h
   omega
  ·have h : w.heap.size = w2.heap.size := h
   omega).trans HR4.out
 have HR5 := Lib.hid hr5; have HP5 := Lib.hid hp5; have HK5 := Lib.hid hk5; clear hp5 hk5 hr5 x0 x1 x2 x3; go_wp2; refine wp_region_rest (by kernel_rfl) ?_; have HP6 := Lib.hid (HP5.out.below (Below.refl w5.heap.size w5).drew); have HB6 := Lib.hid HB5.out.drew; have hR6 : w5.drew.heap[w.heap.size]? = some (rowT t a cap) := HR5.out; have HR6 := Lib.hid hR6; have HK6 := Lib.hid (HK5.out.trans (Keeps.of (Below.refl w5.heap.size w5).drew) (M' := fun _ => False) fun b h => h.elim); clear hR6; generalize w5.drew = W6 at *; obtain ⟨c0, c1, c2, c3⟩ := putC_cells HP6.out; obtain ⟨cv6, bv6, A6, hrow6⟩ := HP6.out.sto; obtain ⟨q6, cp6, rfl⟩ := own_form hrow6.own; have hrow6' : W6.heap[p]? = _ := hrow6.row; obtain ⟨y0, y1, y2⟩ := row3 hrow6'; have hcn : ((cntT (told (putC w2 p (.map r) M)) S.cells.length 0 [] t).2.1 : Nat) ≤ 1000000 := by have := cntT_le (told (putC w2 p (.map r) M)) S.cells.length t 0 []; have := HM.out; omega
 have HCN : Hid ((cntT (told (putC w2 p (.map r) M)) S.cells.length 0 [] t).2.1 = (cntT (fun n => mget M n) S.cells.length 0 [] t).2.1) := Lib.hid rfl; rw [HCN.out] at c3 hcn; have hbf : decide (S.room - (S.cells.length : Int) < ((cntT (fun n => mget M n) S.cells.length 0 [] t).2.1 : Int)) = false := by have := HF.out; simp; omega
 clear hrow6 hrow6'; generalize (cntT (fun n => mget M n) S.cells.length 0 [] t).2.1 = need at *; refine rest_chainP (fun u => u = W6) 0 13 (.soft 0 (.soft 1 (.soft 2 (.soft 3 (.soft 4 (.soft 5 (.soft 6 (.soft 7 (.soft 8 (.soft 9 (.soft 10 (.soft 11 (.soft 12 .nil))))))))))))) (.soft _ (.soft _ (.soft _ (.soft _ (.soft _ (.soft _ (.soft _ (.soft _ (.soft _ (.soft _ (.soft _ (.soft _ (.soft _ .nil))))))))))))) ⟨rfl, ⟨rfl, ⟨rfl, ⟨rfl, ⟨rfl, ⟨rfl, ⟨rfl, ⟨rfl, ⟨rfl, ⟨rfl, ⟨rfl, ⟨rfl, ⟨rfl, trivial⟩⟩⟩⟩⟩⟩⟩⟩⟩⟩⟩⟩⟩ (by kernel_rfl) (by kernel_rfl) (by kernel_rfl) (by kernel_rfl) (.inl rfl) rfl ?_; refine cS (a1 := ?ma149) ?mh149 ?mr149
 case mh149 =>
  intro u hu E hE; subst hu; go_wp2; rfl
 refine cS (a1 := ?ma150) ?mh150 ?mr150
 case mh150 =>
  intro u hu E hE; subst hu; go_wp2; rfl
 refine cS (a1 := ?ma151) ?mh151 ?mr151
 case mh151 =>
  intro u hu E hE; subst hu; go_wp2; rfl
 refine chainP_nck _ _ rfl rfl rfl ?_; simp only [Act.put, zA, zB, zC, zD, zE, zF, zG, Nat.reduceAdd]; refine cS (a1 := ?ma152) ?mh152 ?mr152
 case mh152 =>
  intro u hu E hE; subst hu; go_wp2; rfl
 refine cS (a1 := ?ma153) ?mh153 ?mr153
 case mh153 =>
  intro u hu E hE; subst hu; go_wp2; rfl
 refine cS (a1 := ?ma154) ?mh154 ?mr154
 case mh154 =>
  intro u hu E hE; subst hu; go_wp2; rfl
 refine chainP_nck _ _ rfl rfl rfl ?_; simp only [Act.put, zA, zB, zC, zD, zE, zF, zG, Nat.reduceAdd]; refine cS (a1 := ?ma155) ?mh155 ?mr155
 case mh155 =>
  intro u hu E hE; subst hu; go_wp2; rfl
 refine cS (a1 := ?ma156) ?mh156 ?mr156
 case mh156 =>
  intro u hu E hE; subst hu; go_wp2; rfl
 refine cS (a1 := ?ma157) ?mh157 ?mr157
 case mh157 =>
  intro u hu E hE; subst hu; go_wp2; rfl
 refine cS (a1 := ?ma158) ?mh158 ?mr158
 case mh158 =>
  intro u hu E hE; subst hu; go_wp2; rfl
 refine cS (a1 := ?ma159) ?mh159 ?mr159
 case mh159 =>
  intro u hu E hE; subst hu; go_wp2; rfl
 refine chainP_nil ?_; refine rest_end (by decide) ?_; clear c0 c1 c2 c3 y0 y1 y2 hbf hcn; obtain ⟨c0, c1, c2, c3⟩ := putC_cells HP6.out
 go_wp2_with (with_reducible show wpList _ _ _ (⟨none, .call _, _, _, _, _⟩ :: _) _ _
              refine wpList_imapb_clear rfl (.tmp 46) _ _ _ rfl Try.underlying53 w2.heap.size _ rfl HP6.out.fresh ?_; intro w7 hm7 hg7; have h7 := HP6.out.newFresh hg7 hm7
              have hr7 := (h7.2.block w.heap.size (Array.getElem?_eq_some_iff.1 HR6.out).1 fun h => by
               rcases h with h | h
               ·have h : w.heap.size = w2.heap.size + 1 := h
                omega
               ·have h : w.heap.size = w2.heap.size := h
                omega).trans HR6.out
              have HP7 := Lib.hid h7.1; have HK7 := Lib.hid (HK6.out.trans h7.2 fun b h => .inl h); have HR7 := Lib.hid hr7; clear hm7 hg7 h7 hr7 c0 c1 c2 c3; obtain ⟨cv7, bv7, A7, hrow7⟩ := HP7.out.sto; obtain ⟨q7, cp7, rfl⟩ := own_form hrow7.own; have hrow7' : w7.heap[p]? = _ := hrow7.row; obtain ⟨y0, y1, y2⟩ := row3 hrow7'; obtain ⟨x0, x1, x2, x3⟩ := row4 HR7.out; clear hrow7 hrow7')
 have HIN7 : Hid (IsTm w7 (fun b => P b ∧ b < w.heap.size) (.agg #[.int .i64 t.k, .int .i64 t.n, .string t.s, .slice a t.args.length cap]) t) := Lib.hid (HIN.out.imp (fun _ h => h) fun b hb hlt => HK7.out.block b hlt (HPM.out b hb))
 have hpd7 : ∀ b, (P b ∧ b < w.heap.size) → ¬ (D b ∨ b = (putC w2 p (.map r) M).fb) := fun b hb h => by
  rcases h with h | h
  ·exact HPD.out b hb.1 h
  ·have h : b = w2.heap.size := h
   omega
 refine (pt_put (putC w2 p (.map r) M) _ t.size t _ _ D S [] (lastTop S.cells) w7 (Nat.le_refl _) HRL.out (check_may HC.out) rfl HP7.out HIN7.out hpd7).mono ?_; rintro e8 w8 ⟨rfl, D8, hp8, hk8, hg8⟩; have hre : putT (told (putC w2 p (.map r) M)) (lastTop S.cells) S.cells.length [] t = putR S M t := rfl; rw [hre] at hp8 ⊢; have hnew : NewF (fun n => mget M n) (putR S M t).2.2 := putT_new _ _ _ _ _ (newF_nil _); have hlenr : (putR S M t).2.1.length ≤ t.size := putT_len _ _ _ _ _; have hk8' := hk8; have HK8 := Lib.hid (put_keeps HB2.out (HB4.out.mono (Nat.le_refl _)) HK7.out hk8'); have HG8 := Lib.hid (put_grown HB2.out HB4.out HK7.out hg8); have HP8 := Lib.hid hp8; have HNEW := Lib.hid hnew; have hzz : w2.heap.size + 2 ≤ w8.heap.size := by have := hk8.size; have := HK7.out.size; have := HP4.out.plt; have e : (putC w2 p (.map r) M).pb = w2.heap.size + 1 := rfl; omega
 clear hp8 hk8 hk8' hg8 hre hnew hpd7 x0 x1 x2 x3 y0 y1 y2; obtain ⟨R, hR⟩ : ∃ R, R = putR S M t := ⟨_, rfl⟩; rw [← hR] at HP8 HNEW hlenr ⊢; obtain ⟨at8, new, F8⟩ := R; have HRE := Lib.hid hR; clear hR; dsimp only at HP8 HNEW hlenr ⊢; have hln : S.cells.length + new.length ≤ 20000000 := by have := HRL.out; omega
 obtain ⟨T0, hT0⟩ : ∃ T0, T0 = lastTop S.cells := ⟨_, rfl⟩; have HT0 := Lib.hid hT0
 go_upto_region 15 with fail
 obtain ⟨NN, hNN⟩ : ∃ NN, NN = S.cells.length := ⟨_, rfl⟩; rw [← hNN]; have HNN0 := Lib.hid hNN; clear hNN hT0
 go_upto_if 55 with fail
 have hNN := HNN0.out; have hT0 := HT0.out; have HNN := Lib.hid hNN
 go_cut [12] (fun v wx => v = .int .i64 T0 ∧ w8 = wx)
 case first =>
  rcases nil_or_snoc S.cells with hB | ⟨l, cl, hB⟩
  ·have hl0' : S.cells.length = 0 := by rw [hB]; rfl
   have hT : T0 = -1 := by rw [hT0, hB]; rfl
   obtain rfl : NN = 0 := hNN.trans hl0'; have HTT := Lib.hid hT; clear hT hT0 hB hl0' hNN; go_wp2; go_meet; exact ⟨by rw [HTT.out], rfl⟩
  ·have hl1 : S.cells.length = l.length + 1 := by rw [hB]; simp
   have hT : T0 = cl.top := by rw [hT0, hB]; simp [lastTop]
   have hlb : l.length + 1 ≤ 20000000 := by omega
   obtain ⟨gc, cp, bv, A, hrow⟩ := sto_open HP8.out.sto l.length (by show l.length < (S.cells ++ new).length; simp; omega); have hrow' : w8.heap[p]? = _ := hrow.row; obtain ⟨y0, y1, y2⟩ := row3 hrow'; have hcell : (plusS S new).cells[l.length]? = some cl := by show (S.cells ++ new)[l.length]? = some cl; rw [hB]; simp
   obtain ⟨av, d0, d1, d2, d3, d4, d5, -⟩ := hrow.cellAt l.length cl hcell; have hlt2 : l.length < (plusS S new).cells.length := by show l.length < (S.cells ++ new).length; simp; omega
   have hlt3 : ((l.length : Nat) : Int) < ((plusS S new).cells.length : Int) := by omega
   have hcap := hrow.own.caps; clear hrow hrow' hcell hB hT0; obtain rfl : NN = l.length + 1 := hNN.trans hl1; have HTT := Lib.hid hT; clear hl1 hT hNN; generalize (plusS S new).cells.length = LL at *; have hcap1 := hcap.1; clear hcap; go_wp2; go_meet; exact ⟨by rw [HTT.out], rfl⟩
 case rest =>
  obtain ⟨rfl, rfl⟩ := hcut; clear hT0
  have hst : TopRel (putC w2 p (.map r) M) D8 S T0 new F8 (cntT (told (putC w2 p (.map r) M)) S.cells.length 0 [] t).2.1 w8 (.int .i64 T0) (.int .i64 (NN : Int)) w8 :=
   ⟨0, by omega, rfl, by rw [hNN]; rfl, by rw [topS_zero]; exact HP8.out, Keeps.refl _ _⟩
  have HST := Lib.hid hst; clear hst hNN; go_wp2
  go_loopw [12, 13] (fun v12 v13 wr => TopRel (putC w2 p (.map r) M) D8 S T0 new F8 (cntT (told (putC w2 p (.map r) M)) S.cells.length 0 [] t).2.1 w8 v12 v13 wr) (fun _ v13 _ => S.cells.length + new.length - (intOf v13).toNat)
  case atStart => exact HST.out
  case round =>
   obtain ⟨j, hj, rfl, rfl, hpt, hk⟩ := hrel; have HPT := Lib.hid hpt; have HKT := Lib.hid hk; clear HST; have hLL : (topS S T0 new j).cells.length = S.cells.length + new.length := topS_len _ _ _ _ hj
   obtain ⟨gc, cp, bv, A, hrow⟩ : ∃ q cp bv A, StoRow wr D8 p (topS S T0 new j) (.slice q (topS S T0 new j).cells.length cp) bv A := by
    obtain ⟨cv, bv, A, h⟩ := hpt.sto; obtain ⟨q, cp, rfl⟩ := own_form h.own; exact ⟨q, cp, bv, A, h⟩
   have hrow' : wr.heap[p]? = _ := hrow.row; obtain ⟨y0, y1, y2⟩ := row3 hrow'; rw [hLL] at y1; obtain ⟨x, hx⟩ : ∃ x, x = S.cells.length + j := ⟨_, rfl⟩; obtain ⟨LL, hL⟩ : ∃ LL, LL = S.cells.length + new.length := ⟨_, rfl⟩
   by_cases hjl : j < new.length
   ·obtain ⟨gc, rfl⟩ : ∃ g, gc = some ⟨g, 0, none⟩ := by
     rcases hrow.own.form with ⟨-, h⟩ | ⟨g, c, h⟩
     ·have h' := congrArg List.length h; rw [hLL] at h'; simp only [List.length_nil] at h'; omega
     ·simp only [Value.slice.injEq] at h; exact ⟨g, h.1⟩
    obtain ⟨av, -, -, -, d3, -, -, hav⟩ := hrow.cellAt (S.cells.length + j) new[j] (topS_at S T0 new j hjl); have hav' := hav; obtain ⟨aa, ac, rfl, hac1, hac2, hel⟩ := hav'; have hfz := hrow.own.thaw rfl ((S.cells.length + j) * 6 + 5); have hal : new[j].args.length ≤ 9223372036854775807 := by unfold maxLen at hac2; omega
    have h9 := hpt.setTop hrow (S.cells.length + j) (by rw [hLL]; omega) (maxA (runTop T0 (new.take j)) new[j].args); rw [topS_next S T0 new j hjl] at h9; have hnx : runTop T0 (new.take (j + 1)) = maxA (runTop T0 (new.take j)) new[j].args := by rw [List.take_succ_eq_append_getElem hjl, runTop_snoc]
    have hcap := hrow.own.caps; rw [hLL] at hcap; have HAV := Lib.hid hel; have HNX := Lib.hid hnx
    have hd5 : ∃ d, wr.cell? ⟨gc, (S.cells.length + j) * 6 + 5, none⟩ = some d := by
     obtain ⟨av', -, -, -, -, -, d5, -⟩ := hrow.cellAt (S.cells.length + j) new[j] (topS_at S T0 new j hjl); exact ⟨_, d5⟩
    obtain ⟨vd5, d5⟩ := hd5; have HFL : Hid (∃ v, runTop T0 (new.take j) = v) := Lib.hid ⟨_, rfl⟩; rw [← hx] at d3 hfz h9 d5 ⊢; rw [← hL] at y1 hcap; have HX := Lib.hid hx; have H9 := Lib.hid h9; have hxl : x < LL := by omega
    have hxl2 : (x : Int) < (LL : Int) := by omega
    have hx0 : (0 : Int) ≤ (x : Int) := by omega
    have hLb : LL ≤ 20000000 := by omega
    have hcap1 : LL ≤ cp := hcap.1; have HJ := Lib.hid hjl; have HT := Lib.hid (show maxA (runTop T0 (new.take j)) ([] : List Int) = runTop T0 (new.take j) from rfl); clear hpt hk hrow hrow' hav hel hnx h9 hcap hx hL hLL y0 y2; obtain ⟨wo, hwo⟩ : ∃ wo : World, wo = wr := ⟨_, rfl⟩; generalize hAG : new[j].args = L at *; have HAG := Lib.hid hAG; generalize hRT : runTop T0 (new.take j) = RT at *; have HRT := Lib.hid hRT; clear hAG hRT hwo; have hml : MaxRel RT L (.int .i64 RT) (.int .i64 ((0 : Nat) : Int)) := ⟨0, by omega, rfl, rfl⟩; have HML := Lib.hid hml; clear hml; go_wp2
    go_loop [12, 84] (fun v12 v84 => MaxRel RT L v12 v84) (fun _ v84 => L.length - (intOf v84).toNat)
    case atStart => exact HML.out
    case round =>
     obtain ⟨i, hi, rfl, rfl⟩ := hrel; clear HML
     by_cases hil : i < L.length
     ·obtain ⟨b, off, rfl, -, -, hc⟩ := HAV.out i hil
      have hil2 : (i : Int) < (L.length : Int) := by omega
      have hi0 : (0 : Int) ≤ (i : Int) := by omega
      have hs := maxA_snoc RT (L.take i) L[i]; rw [← List.take_succ_eq_append_getElem hil] at hs; have HS := Lib.hid hs; clear hs; generalize L[i] = el at *; generalize hmm : maxA RT (L.take i) = mm at *; have HMM := Lib.hid hmm; clear hmm; go_wp2
      go_round
      case rel => exact ⟨i + 1, by omega, by go_num, by rw [HS.out]⟩
      case measure => simp [intOf]; omega
     ·obtain rfl : i = L.length := by omega
      have hil2 : decide ((L.length : Int) < (L.length : Int)) = false := by simp
      have htk : L.take L.length = L := List.take_length; rw [htk]; clear htk; go_wp2; go_roundw
      case rel => exact ⟨j + 1, by have := HJ.out; omega, by rw [HNX.out], by have := HX.out; go_num, H9.out.1, HKT.out.trans H9.out.2 fun b hb => .inl hb⟩
      case measure => have := HX.out; simp [intOf]; omega
   ·obtain rfl : j = new.length := by omega
    have HX := Lib.hid hx; have htop := topS_all S T0 new; rw [← hL] at y1; have hd8 : decide ((LL : Int) < (LL : Int)) = false := by simp
    have hx2 : ((S.cells.length + new.length : Nat) : Int) = (LL : Int) := by omega
    have hP9 : PtAt wr (putC w2 p (.map r) M) D8 (plusS S (fixTop T0 new)) F8 (cntT (told (putC w2 p (.map r) M)) S.cells.length 0 [] t).2.1 := by rw [← htop]; exact HPT.out
    have HP9 := Lib.hid hP9; have hLb : LL ≤ 20000000 := by omega
    rw [hx2]; clear hx2 hpt hk hrow hrow' hP9 hx hL hLL y0 y2 hj hjl htop; have qT := fun (w : World) (r : Option Nat) => run_neq_map_nil (P := Try.prog) w 53 _ _ r Try.underlying53
    cases r with
    | none =>
      go_wp2; go_ret2; exact put_ok_none HRE.out HT0.out HP9.out.sto HK8.out HKT.out HG8.out
    | some b =>
      obtain ⟨wo, rfl⟩ : ∃ wo : World, wo = wr := ⟨_, rfl⟩; obtain ⟨c0, c1, c2, c3⟩ := putC_cells HP9.out; have hvb := HP9.out.dvb b rfl
      have hvm : IMapB wo b M := by
       rcases HP9.out.vars with ⟨h, -⟩ | ⟨b', h, hm⟩
       ·cases h
       ·simp only [putC, Value.map.injEq, Option.some.injEq] at h
        rw [h]; exact hm
      have hvl : b < w.heap.size := HVL.out b rfl; have hfb : (putC w2 p (.map (some b)) M).fb = w2.heap.size := rfl; have HVM := Lib.hid hvm; have HVB := Lib.hid hvb; clear hvm hvb hfb
      go_wp2_with (with_reducible show wpList _ _ _ (⟨some 104, _, _, _, _, _⟩ :: _) _ _
                   refine wpList_it_range rfl _ _ _ (.tmp 103) rfl Try.underlying53 w2.heap.size F8 rfl HP9.out.fresh ?_; intro wA hit hbA; have hst : RngRel p D8 (plusS S (fixTop T0 new)) M F8 wo.heap.size w2.heap.size b wo F8.length wA := ⟨[], F8, by simp, rfl, hit, by rw [List.append_nil]; exact HVM.out.below (hbA.block b HVM.out.lt), HP9.out.sto.below hbA, Keeps.of hbA⟩; have HST := Lib.hid hst; clear hit hbA hst c0 c1 c2 c3)
      have hrs : w.heap.size < wo.heap.size := by have := HKT.out.size; omega
      have hnb : b ≠ w2.heap.size := by omega
      have hnr : wo.heap.size ≠ b := by omega
      have hrd : ¬ D8 wo.heap.size := fun h => by have := HP9.out.sto.dl' _ h; omega
      have hri0 : wo.heap.size ≤ wo.heap.size := Nat.le_refl _; obtain ⟨ri, hri1⟩ : ∃ ri, ri = wo.heap.size := ⟨_, rfl⟩; rw [← hri1] at HST hnr hrd ⊢; have hri : wo.heap.size ≤ ri := by omega
      clear hri0 hri1 hrs
      go_frame
      go_loopg [106] F8.length (fun k _ wl => RngRel p D8 (plusS S (fixTop T0 new)) M F8 ri w2.heap.size b wo k wl)
      case atStart => exact HST.out
      case round =>
       obtain ⟨done, rest, hpm, hrl, hit, hmb, hso, hkb⟩ := hrel; have HPM2 := Lib.hid hpm; have HIT := Lib.hid hit; have HMB := Lib.hid hmb; have HSO := Lib.hid hso; have HKB := Lib.hid hkb; have HRL2 := Lib.hid hrl; clear hpm hit hmb hso hkb hrl HST; rcases run_it_next (P := Try.prog) 0 ri w2.heap.size rest HIT.out with ⟨h0, hrun⟩ | ⟨q, l', wn, hq, hin, hgn, hrun⟩
       ·have H0 := Lib.hid h0
        clear h0; go_wp2; go_ret2; exact put_ok_some HRE.out HT0.out H0.out HPM2.out HMB.out HSO.out HK8.out HKT.out HKB.out HG8.out
       ·have hent := run_it_entry (P := Try.prog) ri w2.heap.size q l' hin
        obtain ⟨hms, hpm2⟩ := rng_mset HNEW.out HPM2.out hq; have HMS := Lib.hid hms; have HPM3 := Lib.hid hpm2; have HIN2 := Lib.hid hin; have HGN := Lib.hid hgn; have HMN := Lib.hid (HMB.out.below (hgn.block b HMB.out.lt fun e => hnr (Option.some.inj e).symm)); have HQL : Hid (rest.length = l'.length + 1) := Lib.hid (by have := hq.length_eq; simpa using this); clear hms hpm2 hin hgn hq
        go_wp2_with (with_reducible show wpList _ _ _ (⟨none, .mapUpdate _ _ _ _, _, _, _, _⟩ :: _) _ _
                     refine wpList_imapb_set rfl 53 (.tmp 110) (.tmp 111) (.tmp 112) rfl _ _ _ Try.underlying53 Try.underlying2 b _ rfl HMN.out q.1 rfl q.2 rfl ?_; intro w9 hm9 hg9; rw [HMS.out] at hm9; have hrel : RngRel p D8 (plusS S (fixTop T0 new)) M F8 ri w2.heap.size b wo l'.length w9 := rng_next HPM3.out HIN2.out HGN.out hm9 hg9 HSO.out HKB.out hnb hnr HVB.out.1 hrd hri; have HREL := Lib.hid hrel; clear hm9 hg9 hrel hent hrun)
        go_roundg l'.length
        case measure => have := HQL.out; have := HRL2.out; omega
        case rel => exact HREL.out
end Go.Proofs.Ytcbijikalfodnaa.Tms
