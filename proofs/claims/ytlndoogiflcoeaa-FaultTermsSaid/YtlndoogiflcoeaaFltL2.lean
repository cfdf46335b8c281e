/-
  FaultTerms, walked over the program.
-/
import Derived.Test.YtlndoogiflcoeaaFltL1
namespace Go.Proofs.Ytlndoogiflcoeaa.Tms
open Go Go.RowKit Go.Proofs.Ytlndoogiflcoeaa.Reg

mutual
/-- no part is of kind 0 -/
def Tm.ok : Tm → Bool
  | .mk k _ _ a => k != 0 && okL a
def okL : List Tm → Bool
  | [] => true
  | t :: l => t.ok && okL l
end
mutual
theorem mendT_ok : ∀ t : Tm, (mendT t).ok = true
  | .mk k n s a => by
    have h := mendL_ok a
    unfold mendT
    repeat' split
    all_goals simp [Tm.ok, okL, atomA, atomT, h]
theorem mendL_ok : ∀ l : List Tm, okL (mendL l) = true
  | [] => by simp [mendL, okL]
  | t :: l => by simp [mendL, okL, mendT_ok t, mendL_ok l]
end
theorem formalE_ok (e : Int) (s : ByteArray) (t : Tm) (h : t.ok = true) : (formalE e s t).ok = true := by
  unfold formalE
  repeat' split
  all_goals simp [Tm.ok, okL, compT, atomT, h]

mutual
/-- a reading without parts of kind 0 does not pass a zero row -/
theorem TmAt.avoid {w : World} {P : Nat → Prop} {g : Nat} {T : TypeId} {fr : Nat × Nat} (hz : w.heap[g]? = some (.cells #[.int .i64 0, .int .i64 0, .string ⟨#[]⟩, .slice none 0 0] T fr)) : ∀ (t : Tm) (b o : Nat), t.ok = true → TmAt w P b o t → b ≠ g ∧ TmAt w (fun x => P x ∧ x ≠ g) b o t
  | .mk k n s a, b, o, hok, h => by
    simp only [Tm.ok, Bool.and_eq_true, bne_iff_ne] at hok
    unfold TmAt at h ⊢
    obtain ⟨q, c, h0, h1, h2, h3, h4⟩ := h
    refine ⟨fun e => ?_, q, c, h0, h1, h2, h3, ArgsFrom.avoid hz a q 0 hok.2 h4⟩
    subst e
    rw [cell_of_row w b _ _ _ _ hz] at h0
    match o with
    | 0 => simp at h0; exact hok.1 h0.symm
    | 1 => simp at h0; exact hok.1 h0.symm
    | 2 => simp at h0
    | 3 => simp at h0
    | o + 4 => simp at h0
theorem ArgsFrom.avoid {w : World} {P : Nat → Prop} {g : Nat} {T : TypeId} {fr : Nat × Nat} (hz : w.heap[g]? = some (.cells #[.int .i64 0, .int .i64 0, .string ⟨#[]⟩, .slice none 0 0] T fr)) : ∀ (l : List Tm) (q : Option Addr) (j : Nat), okL l = true → ArgsFrom w P q j l → ArgsFrom w (fun x => P x ∧ x ≠ g) q j l
  | [], q, j, _, _ => by unfold ArgsFrom; trivial
  | t :: l, q, j, hok, h => by
    simp only [okL, Bool.and_eq_true] at hok
    unfold ArgsFrom at h ⊢
    obtain ⟨⟨b, off, e, hp, ht⟩, h2⟩ := h
    obtain ⟨hne, ht'⟩ := TmAt.avoid hz t b _ hok.1 ht
    exact ⟨⟨b, off, e, ⟨hp, hne⟩, ht'⟩, ArgsFrom.avoid hz l q (j + 1) hok.2 h2⟩
end
theorem IsTm.avoid {w : World} {P : Nat → Prop} {g : Nat} {T : TypeId} {fr : Nat × Nat} (hz : w.heap[g]? = some (.cells #[.int .i64 0, .int .i64 0, .string ⟨#[]⟩, .slice none 0 0] T fr)) {v : Value} {t : Tm} (hok : t.ok = true) (h : IsTm w P v t) : IsTm w (fun x => P x ∧ x ≠ g) v t := by
  obtain ⟨a, c, e, h⟩ := h
  obtain ⟨k, n, s, l⟩ := t
  simp only [Tm.ok, Bool.and_eq_true] at hok
  exact ⟨a, c, e, ArgsFrom.avoid hz _ a 0 hok.2 h⟩

/-- this value reads as this term -/
def AnyTm (u : World) (v : Value) (t : Tm) : Prop := ∃ P, IsTm u P v t
theorem AnyTm.below {u u' : World} {v : Value} {t : Tm} (h : AnyTm u v t) (hb : Below u.heap.size u u') : AnyTm u' v t := let ⟨P, h⟩ := h; ⟨P, h.below hb⟩

theorem formalE_size (e : Int) (s : ByteArray) (t : Tm) : (formalE e s t).size ≤ t.size + 10 := by
  unfold formalE
  repeat' split
  all_goals simp only [Tm.size, sizeL, compT, atomT]
  all_goals omega
theorem same_same {t : Tm} (ht : t.size ≤ 1000000) (v v' : Value) (u : World) (h : AnyTm u v t) (h' : AnyTm u v' t) : Calls Try.prog 14 #[v, v'] u (Says true u) := by
  obtain ⟨P, h⟩ := h
  obtain ⟨P', h'⟩ := h'
  have := ref_same _ t t v v' P P' u (Nat.le_refl _) (by omega) h h'
  rwa [sameT_refl] at this

theorem errorT_small {t : Tm} {s : ByteArray} {n : Int} (h : t.size ≤ 1000) : (errorT t s n).size ≤ 1000000 := by simp [Tm.size, sizeL, compT, atomT, indT, intT, errorT]; omega
theorem unknownT_small {s : ByteArray} {n : Int} : (unknownT s n).size ≤ 1000000 := errorT_small (by simp [Tm.size, sizeL, compT, atomT, indT, intT])
theorem staticT_small {a s : ByteArray} {n : Int} : (staticT a s n).size ≤ 1000000 := by simp [Tm.size, sizeL, compT, atomT, indT, intT, staticT]
theorem indT_small {s : ByteArray} {n : Int} : (indT s n).size ≤ 1000000 := by simp [Tm.size, sizeL, compT, atomT, indT, intT]

set_option maxRecDepth 100000 in
set_option maxHeartbeats 4000000 in
theorem law_terms (e n : Int) (s : ByteArray) (L : List Pt) (vl : Value) (w : World) (hl : PtSl w vl L) : Calls Try.prog 3 #[.agg #[.int .i64 e, .string s, vl, .int .i64 n]] w (Says true w) := by
  obtain ⟨al, cl, rfl, hlc, hcm⟩ := hl.form
  have HL := Lib.hid hl
  have hbx := heap_alloc_new w (.cells #[.int .i64 e, .string s, .slice al L.length cl, .int .i64 n] 24 (0, 0))
  have hba : Below w.heap.size w (w.alloc (.cells #[.int .i64 e, .string s, .slice al L.length cl, .int .i64 n] 24 (0, 0))) := (Below.refl _ _).alloc (Nat.le_refl _) _
  have hsz : (w.alloc (.cells #[.int .i64 e, .string s, .slice al L.length cl, .int .i64 n] 24 (0, 0))).heap.size = w.heap.size + 1 := by simp
  have HBX := Lib.hid hbx
  have HBA := Lib.hid hba
  have HSZ := Lib.hid hsz
  clear hl hbx hba hsz
  go_enter Try.func3, Try.ntmps3
  go_wp2_with (go_at_call 9
               refine (flt_alive _).mono ?_
               rintro e1 w1 ⟨rfl, hb1⟩
               have HR := Lib.hid ((hb1.block _ (by have := HSZ.out; omega)).trans HBX.out)
               have HB := Lib.hid (HBA.out.trans (hb1.mono HBA.out.size))
               have HLT := Lib.hid (show w.heap.size < w1.heap.size by have := HSZ.out; have := hb1.size; omega)
               clear hb1)
  refine wp_region_rest (by kernel_rfl) ?_
  have hd : Below w1.heap.size w1 w1.drew := (Below.refl _ _).drew
  replace HR := Lib.hid ((hd.block _ HLT.out).trans HR.out)
  replace HB := Lib.hid HB.out.drew
  replace HLT := Lib.hid (show w.heap.size < w1.drew.heap.size from HLT.out)
  clear hd HBX HBA HSZ
  generalize w1.drew = W0 at *
  refine rest_opsL 0 11 78 [_, _, _, _, _, _, _, _, _, _, _] (pk 0 [isV ?a1_0, isV ?a1_1, isV ?a1_2, isV ?a1_3, isV ?a1_4, isV ?a1_5, isV ?a1_6, isV ?a1_7, isV ?a1_8, isV ?a1_9, isV ?a1_10]) (fun _ _ => none) rfl (by kernel_rfl) (by kernel_rfl) rfl (.inr (by kernel_rfl)) ?hS1 ?hop1 ?_
  case hop1 =>
    refine hops_cons ?_ ?_
    · intro v u hu hs Q' hQ
      simp only [putAll, dstOf]
      clear hs
      go_wp2
      exact ⟨rfl, Below.refl _ _, by (show _ = _; rfl), fun _ h => nomatch h⟩
    refine hops_cons ?_ ?_
    · intro v u hu hs Q' hQ
      simp only [putAll, dstOf]
      have s_0 : v 0 = _ := hs 0 (by kernel_rfl) (by decide) (by decide)
      have y := row4 ((hu.block _ HLT.out).trans HR.out)
      have f0 := y.1
      have f1 := y.2.1
      have f2 := y.2.2.1
      have f3 := y.2.2.2
      clear y
      clear hs
      go_wp2
      exact ⟨rfl, Below.refl _ _, by (show _ = _; rfl), fun _ h => nomatch h⟩
    refine hops_cons ?_ ?_
    · intro v u hu hs Q' hQ
      simp only [putAll, dstOf]
      clear hs
      go_wp2
      exact ⟨rfl, Below.refl _ _, by (show _ = _; rfl), fun _ h => nomatch h⟩
    refine hops_cons ?_ ?_
    · intro v u hu hs Q' hQ
      simp only [putAll, dstOf]
      have s_2 : v 2 = _ := hs 2 (by kernel_rfl) (by decide) (by decide)
      have y := row4 ((hu.block _ HLT.out).trans HR.out)
      have f0 := y.1
      have f1 := y.2.1
      have f2 := y.2.2.1
      have f3 := y.2.2.2
      clear y
      clear hs
      go_wp2
      exact ⟨rfl, Below.refl _ _, by (show _ = _; rfl), fun _ h => nomatch h⟩
    refine hops_cons ?_ ?_
    · intro v u hu hs Q' hQ
      simp only [putAll, dstOf]
      clear hs
      go_wp2
      exact ⟨rfl, Below.refl _ _, by (show _ = _; rfl), fun _ h => nomatch h⟩
    refine hops_cons ?_ ?_
    · intro v u hu hs Q' hQ
      simp only [putAll, dstOf]
      have s_4 : v 4 = _ := hs 4 (by kernel_rfl) (by decide) (by decide)
      have y := row4 ((hu.block _ HLT.out).trans HR.out)
      have f0 := y.1
      have f1 := y.2.1
      have f2 := y.2.2.1
      have f3 := y.2.2.2
      clear y
      clear hs
      go_wp2
      exact ⟨rfl, Below.refl _ _, by (show _ = _; rfl), fun _ h => nomatch h⟩
    refine hops_cons ?_ ?_
    · intro v u hu hs Q' hQ
      simp only [putAll, dstOf]
      clear hs
      go_wp2
      exact ⟨rfl, Below.refl _ _, by (show _ = _; rfl), fun _ h => nomatch h⟩
    refine hops_cons ?_ ?_
    · intro v u hu hs Q' hQ
      simp only [putAll, dstOf]
      have s_6 : v 6 = _ := hs 6 (by kernel_rfl) (by decide) (by decide)
      have y := row4 ((hu.block _ HLT.out).trans HR.out)
      have f0 := y.1
      have f1 := y.2.1
      have f2 := y.2.2.1
      have f3 := y.2.2.2
      clear y
      clear hs
      go_wp2
      exact ⟨rfl, Below.refl _ _, by (show _ = _; rfl), fun _ h => nomatch h⟩
    refine hops_cons ?_ ?_
    · intro v u hu hs Q' hQ
      simp only [putAll, dstOf]
      have s_0 : v 0 = _ := hs 0 (by kernel_rfl) (by decide) (by decide)
      have s_1 : v 1 = _ := hs 1 (by kernel_rfl) (by decide) (by decide)
      clear hs
      go_wp2
      exact ⟨rfl, Below.refl _ _, by (show _ = _; rfl), fun _ h => nomatch h⟩
    refine hops_cons ?_ ?_
    · intro v u hu hs Q' hQ
      simp only [putAll, dstOf]
      have s_0 : v 0 = _ := hs 0 (by kernel_rfl) (by decide) (by decide)
      have s_1 : v 1 = _ := hs 1 (by kernel_rfl) (by decide) (by decide)
      have s_2 : v 2 = _ := hs 2 (by kernel_rfl) (by decide) (by decide)
      have s_3 : v 3 = _ := hs 3 (by kernel_rfl) (by decide) (by decide)
      have s_8 : v 8 = _ := hs 8 (by kernel_rfl) (by decide) (by decide)
      clear hs
      go_wp2
      exact ⟨rfl, Below.refl _ _, by (show _ = _; rfl), fun _ h => nomatch h⟩
    refine hops_cons ?_ ?_
    · intro v u hu hs Q' hQ
      simp only [putAll, dstOf]
      have s_0 : v 0 = _ := hs 0 (by kernel_rfl) (by decide) (by decide)
      have s_1 : v 1 = _ := hs 1 (by kernel_rfl) (by decide) (by decide)
      have s_2 : v 2 = _ := hs 2 (by kernel_rfl) (by decide) (by decide)
      have s_3 : v 3 = _ := hs 3 (by kernel_rfl) (by decide) (by decide)
      have s_4 : v 4 = _ := hs 4 (by kernel_rfl) (by decide) (by decide)
      have s_5 : v 5 = _ := hs 5 (by kernel_rfl) (by decide) (by decide)
      have s_8 : v 8 = _ := hs 8 (by kernel_rfl) (by decide) (by decide)
      have s_9 : v 9 = _ := hs 9 (by kernel_rfl) (by decide) (by decide)
      clear hs
      go_wp2
      exact ⟨rfl, Below.refl _ _, by (show _ = _; rfl), fun _ h => nomatch h⟩
    exact hops_nil
  case hS1 =>
    intro j v u u' hkj hjn h hb
    match j, hkj, hjn, h with
    | 0, _, _, h => exact h
    | 1, _, _, h => exact h
    | 2, _, _, h => exact h
    | 3, _, _, h => exact h
    | 4, _, _, h => exact h
    | 5, _, _, h => exact h
    | 6, _, _, h => exact h
    | 7, _, _, h => exact h
    | 8, _, _, h => exact h
    | 9, _, _, h => exact h
    | 10, _, _, h => exact h
    | q + 11, _, hq, _ => exact absurd hq (by omega)
  intro v u hu hs hap
  have s_0 : v 0 = _ := hs 0 (by decide) (by decide)
  have s_1 : v 1 = _ := hs 1 (by decide) (by decide)
  have s_2 : v 2 = _ := hs 2 (by decide) (by decide)
  have s_3 : v 3 = _ := hs 3 (by decide) (by decide)
  have s_4 : v 4 = _ := hs 4 (by decide) (by decide)
  have s_5 : v 5 = _ := hs 5 (by decide) (by decide)
  have s_6 : v 6 = _ := hs 6 (by decide) (by decide)
  have s_7 : v 7 = _ := hs 7 (by decide) (by decide)
  have s_8 : v 8 = _ := hs 8 (by decide) (by decide)
  have s_9 : v 9 = _ := hs 9 (by decide) (by decide)
  have s_10 : v 10 = _ := hs 10 (by decide) (by decide)
  simp only [putAll, dstOf]
  replace HB := Lib.hid (HB.out.trans (hu.mono HB.out.size))
  clear hs hap hu HR HLT
  refine rest_lineL 11 12 [_] rfl (by kernel_rfl) (by decide) (by decide) (by kernel_rfl) ?_
  go_wp2
  clear s_0 s_1 s_2 s_3 s_4 s_5 s_6 s_7 s_8 s_9 s_10
  refine then_rest (rest_end (by decide) ?_)
  by_cases h60 : 60 < L.length
  · have hd : decide (60 < (L.length : Int)) = true := by simp; omega
    go_wp2_with (go_at_call 10; refine (ref_great L _ _ (HL.out.below HB.out)).mono ?_; rintro e2 w2 ⟨rfl, rfl⟩)
    go_ret
    exact ⟨rfl, HB.out⟩
  have hd : decide (60 < (L.length : Int)) = false := by simp; omega
  by_cases h500 : 500 < s.size
  · go_wp2_with (go_at_call 10; refine (ref_great L _ _ (HL.out.below HB.out)).mono ?_; rintro e2 w2 ⟨rfl, rfl⟩)
    go_ret
    exact ⟨rfl, HB.out⟩
  have htz := goodT_size L
  have hok := mendT_ok (ofN L.length L).1
  have HOK : Hid ((goodT L).ok = true) := Lib.hid hok
  clear hok
  have HT := Lib.hid htz
  clear htz
  go_wp2_with (first
    | (go_at_call 10; refine (ref_great L _ _ (HL.out.below HB.out)).mono ?_; rintro e2 w2 ⟨rfl, rfl⟩)
    | (go_at_call 11
       refine (ref_good L _ _ (by omega) (HL.out.below HB.out)).mono ?_
       rintro e3 w3 ⟨v3, rfl, hi3, hb3⟩
       have HG := Lib.hid hi3
       replace HB := Lib.hid (HB.out.trans (hb3.mono HB.out.size))
       clear hi3 hb3
       obtain ⟨a3, c3, rfl⟩ := HG.out.form))
  generalize goodT L = T at *
  obtain ⟨uG, hG⟩ : ∃ uG, IsTm w3 (fun b => False ∨ uG ≤ b) (.agg #[.int .i64 T.k, .int .i64 T.n, .string T.s, .slice a3 T.args.length c3]) T := ⟨_, HG.out⟩
  replace HG := Lib.hid hG
  clear hG
  have hr3 := heap_alloc_new w3 (.cells #[.int .i64 T.k, .int .i64 T.n, .string T.s, .slice a3 T.args.length c3] 29 (0, 0))
  have hb3 : Below w3.heap.size w3 (w3.alloc (.cells #[.int .i64 T.k, .int .i64 T.n, .string T.s, .slice a3 T.args.length c3] 29 (0, 0))) := (Below.refl _ _).alloc (Nat.le_refl _) _
  have hlt3 : w3.heap.size < (w3.alloc (.cells #[.int .i64 T.k, .int .i64 T.n, .string T.s, .slice a3 T.args.length c3] 29 (0, 0))).heap.size := by simp
  generalize w3.alloc (.cells #[.int .i64 T.k, .int .i64 T.n, .string T.s, .slice a3 T.args.length c3] 29 (0, 0)) = W at *
  refine wp_region_rest (by kernel_rfl) ?_
  have hd7 : Below W.heap.size W W.drew := (Below.refl _ _).drew
  have HR := Lib.hid ((hd7.block _ hlt3).trans hr3)
  have hbd := hb3.trans (hd7.mono (by omega))
  replace HB := Lib.hid (HB.out.trans (hbd.mono HB.out.size))
  replace HG := Lib.hid (HG.out.below hbd)
  have hlt : w3.heap.size < W.drew.heap.size := by have := hd7.size; omega
  clear hd7 hr3 hb3 hlt3 hbd
  generalize W.drew = W0 at *
  refine rest_opsL 0 10 78 [_, _, _, _, _, _, _, _, _, _] (pk 0 [isV ?a2_0, isV ?a2_1, isV ?a2_2, fun v u => IsTm u (fun b => (False ∨ uG ≤ b) ∨ W0.heap.size ≤ b) v (formalE e s T), isV ?a2_4, isV ?a2_5, isV ?a2_6, fun v u => IsTm u (fun b => (False ∨ uG ≤ b) ∨ W0.heap.size ≤ b) v (formalE e s T), fun v u => NewVar W0.heap.size #[.int .i64 0, .int .i64 0, .string ⟨#[]⟩, .slice none 0 0] 29 v u, fun v u => NewVar W0.heap.size #[.int .i64 0, .int .i64 0, .string ⟨#[]⟩, .slice none 0 0] 29 v u]) (fun j => match j with | 8 => ptrBlk | 9 => ptrBlk | _ => fun _ => none) rfl (by kernel_rfl) (by kernel_rfl) rfl (.inr (by kernel_rfl)) ?hS2 ?hop2 ?_
  case hop2 =>
    refine hops_cons ?_ ?_
    · intro v u hu hs Q' hQ
      simp only [putAll, dstOf]
      clear hs
      go_wp2
      exact ⟨rfl, Below.refl _ _, by (show _ = _; rfl), fun _ h => nomatch h⟩
    refine hops_cons ?_ ?_
    · intro v u hu hs Q' hQ
      simp only [putAll, dstOf]
      clear hs
      go_wp2
      exact ⟨rfl, Below.refl _ _, by (show _ = _; rfl), fun _ h => nomatch h⟩
    refine hops_cons ?_ ?_
    · intro v u hu hs Q' hQ
      simp only [putAll, dstOf]
      have y := row4 ((hu.block _ hlt).trans HR.out)
      have f0 := y.1
      have f1 := y.2.1
      have f2 := y.2.2.1
      have f3 := y.2.2.2
      clear y
      clear hs
      go_wp2
      exact ⟨rfl, Below.refl _ _, by (show _ = _; rfl), fun _ h => nomatch h⟩
    refine hops_cons ?_ ?_
    · intro v u hu hs Q' hQ
      simp only [putAll, dstOf]
      have s_0 : v 0 = _ := hs 0 (by kernel_rfl) (by decide) (by decide)
      have s_1 : v 1 = _ := hs 1 (by kernel_rfl) (by decide) (by decide)
      have s_2 : v 2 = _ := hs 2 (by kernel_rfl) (by decide) (by decide)
      have y := row4 ((hu.block _ hlt).trans HR.out)
      have f0 := y.1
      have f1 := y.2.1
      have f2 := y.2.2.1
      have f3 := y.2.2.2
      clear y
      clear hs
      go_wp2_with (go_at_call 12; refine (flt_formal e s T _ _ _ (by have := HT.out; omega) (HG.out.below hu)).mono ?_; rintro e1 w1 ⟨v1, rfl, hi1, hb1⟩)
      exact ⟨rfl, hb1, hi1.imp (fun b h => h.elim .inl fun h => .inr (Nat.le_trans hu.size h)) fun _ _ _ => rfl, fun _ h => nomatch h⟩
    refine hops_cons ?_ ?_
    · intro v u hu hs Q' hQ
      simp only [putAll, dstOf]
      clear hs
      go_wp2
      exact ⟨rfl, Below.refl _ _, by (show _ = _; rfl), fun _ h => nomatch h⟩
    refine hops_cons ?_ ?_
    · intro v u hu hs Q' hQ
      simp only [putAll, dstOf]
      clear hs
      go_wp2
      exact ⟨rfl, Below.refl _ _, by (show _ = _; rfl), fun _ h => nomatch h⟩
    refine hops_cons ?_ ?_
    · intro v u hu hs Q' hQ
      simp only [putAll, dstOf]
      have y := row4 ((hu.block _ hlt).trans HR.out)
      have f0 := y.1
      have f1 := y.2.1
      have f2 := y.2.2.1
      have f3 := y.2.2.2
      clear y
      clear hs
      go_wp2
      exact ⟨rfl, Below.refl _ _, by (show _ = _; rfl), fun _ h => nomatch h⟩
    refine hops_cons ?_ ?_
    · intro v u hu hs Q' hQ
      simp only [putAll, dstOf]
      have s_3 : IsTm u (fun b => (False ∨ uG ≤ b) ∨ W0.heap.size ≤ b) (v 3) (formalE e s T) := hs 3 (by kernel_rfl) (by decide) (by decide)
      have s_4 : v 4 = _ := hs 4 (by kernel_rfl) (by decide) (by decide)
      have s_5 : v 5 = _ := hs 5 (by kernel_rfl) (by decide) (by decide)
      have s_6 : v 6 = _ := hs 6 (by kernel_rfl) (by decide) (by decide)
      have y := row4 ((hu.block _ hlt).trans HR.out)
      have f0 := y.1
      have f1 := y.2.1
      have f2 := y.2.2.1
      have f3 := y.2.2.2
      clear y
      clear hs
      go_wp2_with (go_at_call 13; refine (ref_formal e s T _ _ _ (HG.out.below hu)).mono ?_; rintro e1 w1 ⟨v1, rfl, hi1, hb1⟩)
      exact ⟨rfl, hb1, hi1.imp (fun b h => h.elim .inl fun h => .inr (Nat.le_trans hu.size h)) fun _ _ _ => rfl, fun _ h => nomatch h⟩
    refine hops_cons ?_ ?_
    · intro v u hu hs Q' hQ
      simp only [putAll, dstOf]
      clear hs
      go_wp2
      exact NewVar.made hu rfl rfl
    refine hops_cons ?_ ?_
    · intro v u hu hs Q' hQ
      simp only [putAll, dstOf]
      clear hs
      go_wp2
      exact NewVar.made hu rfl rfl
    exact hops_nil
  case hS2 =>
    intro j v u u' hkj hjn h hb
    match j, hkj, hjn, h with
    | 0, _, _, h => exact h
    | 1, _, _, h => exact h
    | 2, _, _, h => exact h
    | 3, _, _, h => exact h.below hb
    | 4, _, _, h => exact h
    | 5, _, _, h => exact h
    | 6, _, _, h => exact h
    | 7, _, _, h => exact h.below hb
    | 8, _, _, h => exact h.below hb
    | 9, _, _, h => exact h.below hb
    | q + 10, _, hq, _ => exact absurd hq (by omega)
  intro v u hu hs hap
  have s_0 : v 0 = _ := hs 0 (by decide) (by decide)
  have s_1 : v 1 = _ := hs 1 (by decide) (by decide)
  have s_2 : v 2 = _ := hs 2 (by decide) (by decide)
  have s_3 : IsTm u (fun b => (False ∨ uG ≤ b) ∨ W0.heap.size ≤ b) (v 3) (formalE e s T) := hs 3 (by decide) (by decide)
  have s_4 : v 4 = _ := hs 4 (by decide) (by decide)
  have s_5 : v 5 = _ := hs 5 (by decide) (by decide)
  have s_6 : v 6 = _ := hs 6 (by decide) (by decide)
  have s_7 : IsTm u (fun b => (False ∨ uG ≤ b) ∨ W0.heap.size ≤ b) (v 7) (formalE e s T) := hs 7 (by decide) (by decide)
  have s_8 : NewVar W0.heap.size #[.int .i64 0, .int .i64 0, .string ⟨#[]⟩, .slice none 0 0] 29 (v 8) u := hs 8 (by decide) (by decide)
  have s_9 : NewVar W0.heap.size #[.int .i64 0, .int .i64 0, .string ⟨#[]⟩, .slice none 0 0] 29 (v 9) u := hs 9 (by decide) (by decide)
  simp only [putAll, dstOf]
  obtain ⟨b8, e8, nb8, nh8⟩ := s_8
  obtain ⟨b9, e9, nb9, nh9⟩ := s_9
  have hne : b8 ≠ b9 := fun e => hap 8 9 (by decide) (by decide) (by decide) (by decide) (by decide) b8 (by show ptrBlk (v 8) = _; rw [e8]; rfl) (by show ptrBlk (v 9) = _; rw [e9, e]; rfl)
  have hXok := formalE_ok e s T HOK.out
  have hXs := formalE_size e s T
  have hXs2 : (formalE e s T).size ≤ 1000 := by have := HT.out; omega
  generalize formalE e s T = X at *
  obtain ⟨ax, cx, ex⟩ := s_3.form
  obtain ⟨ay, cy, ey⟩ := s_7.form
  rw [ex] at s_3
  rw [ey] at s_7
  have x1 := (s_3.avoid nh8 hXok).avoid nh9 hXok
  have y1 := (s_7.avoid nh8 hXok).avoid nh9 hXok
  have hb8 : w.heap.size ≤ b8 := Nat.le_trans HB.out.size nb8
  have hb9 : w.heap.size ≤ b9 := Nat.le_trans HB.out.size nb9
  replace HB := Lib.hid (HB.out.trans (hu.mono HB.out.size))
  have HNE := Lib.hid hne
  have N8 := Lib.hid nh8
  have N9 := Lib.hid nh9
  have X1 := Lib.hid x1
  have Y1 := Lib.hid y1
  clear hs hap hu s_3 s_7 x1 y1 hXok hXs HR HG HOK hlt nb8 nb9 nh8 nh9 hne HL
  refine rest_lineL 10 12 [_, _] rfl (by kernel_rfl) (by decide) (by decide) (by kernel_rfl) ?_
  simp only [Act.put, List.getElem?_toArray, List.getElem?_cons_succ, List.getElem?_cons_zero, Option.bind_some, List.setIfInBounds_toArray, List.set_cons_succ, List.set_cons_zero, Nat.reduceAdd, s_0, s_1, s_2, ex, s_4, s_5, s_6, ey, e8, e9]
  go_wp2_with (first
    | (with_reducible show wpList _ _ _ (⟨none, .store _ (.tmp 8) _, _, _, _, _⟩ :: _) _ _
       refine wpList_store_row rfl 29 (.tmp 8) (.tmp 32) rfl b8 #[.int .i64 X.k, .int .i64 X.n, .string X.s, .slice ax X.args.length cx] rfl rfl _ _ N8.out size_term rfl (one4 _ _ _ _ _ _) ?_)
    | (refine wpList_store_row rfl 29 (.tmp 9) (.tmp 36) rfl b9 #[.int .i64 X.k, .int .i64 X.n, .string X.s, .slice ay X.args.length cy] rfl rfl _ _ ((setRow_other _ _ _ _ (Ne.symm HNE.out)).trans N9.out) size_term rfl (one4 _ _ _ _ _ _) ?_))
  have rx : ((u.setRow b8 #[.int .i64 X.k, .int .i64 X.n, .string X.s, .slice ax X.args.length cx]).setRow b9 #[.int .i64 X.k, .int .i64 X.n, .string X.s, .slice ay X.args.length cy]).heap[b8]? = _ := (setRow_other _ _ _ _ HNE.out).trans (setRow_heap u b8 _ (#[.int .i64 X.k, .int .i64 X.n, .string X.s, .slice ax X.args.length cx] : Array Value) _ _ N8.out)
  have ry : ((u.setRow b8 #[.int .i64 X.k, .int .i64 X.n, .string X.s, .slice ax X.args.length cx]).setRow b9 #[.int .i64 X.k, .int .i64 X.n, .string X.s, .slice ay X.args.length cy]).heap[b9]? = _ := setRow_heap _ b9 _ (#[.int .i64 X.k, .int .i64 X.n, .string X.s, .slice ay X.args.length cy] : Array Value) _ _ ((setRow_other _ _ _ _ (Ne.symm HNE.out)).trans N9.out)
  have hsame : ∀ b, b ≠ b8 → b ≠ b9 → ((u.setRow b8 #[.int .i64 X.k, .int .i64 X.n, .string X.s, .slice ax X.args.length cx]).setRow b9 #[.int .i64 X.k, .int .i64 X.n, .string X.s, .slice ay X.args.length cy]).heap[b]? = u.heap[b]? := fun b h1 h2 => (setRow_other _ _ _ _ h2).trans (setRow_other _ _ _ _ h1)
  have hbw : Below w.heap.size w ((u.setRow b8 #[.int .i64 X.k, .int .i64 X.n, .string X.s, .slice ax X.args.length cx]).setRow b9 #[.int .i64 X.k, .int .i64 X.n, .string X.s, .slice ay X.args.length cy]) := below_setRow (below_setRow HB.out hb8 _) hb9 _
  have x2 := X1.out.imp (fun _ h => h) fun b h _ => hsame b h.1.2 h.2
  have y2 := Y1.out.imp (fun _ h => h) fun b h _ => hsame b h.1.2 h.2
  generalize (u.setRow b8 #[.int .i64 X.k, .int .i64 X.n, .string X.s, .slice ax X.args.length cx]).setRow b9 #[.int .i64 X.k, .int .i64 X.n, .string X.s, .slice ay X.args.length cy] = W2 at *
  have hcells : Cells [(b8, 0, .int .i64 X.k), (b8, 1, .int .i64 X.n), (b8, 2, .string X.s), (b8, 3, .slice ax X.args.length cx), (b9, 0, .int .i64 X.k), (b9, 1, .int .i64 X.n), (b9, 2, .string X.s), (b9, 3, .slice ay X.args.length cy)] W2 :=
    let r1 := row4 rx; let r2 := row4 ry; ⟨r1.1, r1.2.1, r1.2.2.1, r1.2.2.2, r2.1, r2.2.1, r2.2.2.1, r2.2.2.2, trivial⟩
  refine then_rest (rest_end (by decide) ?_)
  go_wp2
  refine wp_region_rest (by kernel_rfl) ?_
  have hd8 : Below W2.heap.size W2 W2.drew := (Below.refl _ _).drew
  have HC := Lib.hid (hcells.below hd8)
  have jx : AnyTm W2 (.agg #[.int .i64 X.k, .int .i64 X.n, .string X.s, .slice ax X.args.length cx]) X := ⟨_, x2⟩
  have jy : AnyTm W2 (.agg #[.int .i64 X.k, .int .i64 X.n, .string X.s, .slice ay X.args.length cy]) X := ⟨_, y2⟩
  have JX := Lib.hid (jx.below hd8)
  have JY := Lib.hid (jy.below hd8)
  replace HB := Lib.hid hbw.drew
  clear rx ry hsame hbw x2 y2 jx jy hcells hd8 N8 N9 HNE X1 Y1 s_0 s_1 s_2 s_4 s_5 s_6 ex ey e8 e9
  clear v
  generalize W2.drew = W0 at *
  refine rest_opsL 0 2 78 [_, _] (pk 0 [isV ?a3_0, isV ?a3_1]) (fun _ _ => none) rfl (by kernel_rfl) (by kernel_rfl) rfl (.inr (by kernel_rfl)) ?hS3 ?hop3 ?_
  case hop3 =>
    refine hops_cons ?_ ?_
    · intro v u hu hs Q' hQ
      simp only [putAll, dstOf]
      have y := HC.out.below hu
      have f0 := y.1
      have f1 := y.2.1
      have f2 := y.2.2.1
      have f3 := y.2.2.2.1
      have f4 := y.2.2.2.2.1
      have f5 := y.2.2.2.2.2.1
      have f6 := y.2.2.2.2.2.2.1
      have f7 := y.2.2.2.2.2.2.2.1
      clear y
      clear hs
      go_wp2
      exact ⟨rfl, Below.refl _ _, by (show _ = _; rfl), fun _ h => nomatch h⟩
    refine hops_cons ?_ ?_
    · intro v u hu hs Q' hQ
      simp only [putAll, dstOf]
      have y := HC.out.below hu
      have f0 := y.1
      have f1 := y.2.1
      have f2 := y.2.2.1
      have f3 := y.2.2.2.1
      have f4 := y.2.2.2.2.1
      have f5 := y.2.2.2.2.2.1
      have f6 := y.2.2.2.2.2.2.1
      have f7 := y.2.2.2.2.2.2.2.1
      clear y
      clear hs
      go_wp2
      exact ⟨rfl, Below.refl _ _, by (show _ = _; rfl), fun _ h => nomatch h⟩
    exact hops_nil
  case hS3 =>
    intro j v u u' hkj hjn h hb
    match j, hkj, hjn, h with
    | 0, _, _, h => exact h
    | 1, _, _, h => exact h
    | q + 2, _, hq, _ => exact absurd hq (by omega)
  intro v u hu hs hap
  have s_0 : v 0 = _ := hs 0 (by decide) (by decide)
  have s_1 : v 1 = _ := hs 1 (by decide) (by decide)
  simp only [putAll, dstOf]
  replace HC := Lib.hid (HC.out.below hu)
  replace JX := Lib.hid (JX.out.below hu)
  replace JY := Lib.hid (JY.out.below hu)
  replace HB := Lib.hid (HB.out.trans ((hu).mono HB.out.size))
  clear hs hap hu
  refine rest_lineL 2 3 [_] rfl (by kernel_rfl) (by decide) (by decide) (by kernel_rfl) ?_
  go_wp2_with (go_at_call 14
               refine (same_same (t := X) (by omega) _ _ _ JX.out JY.out).mono ?_
               rintro e1 w9 ⟨rfl, hb9⟩
               have HU := Lib.hid hb9
               clear hb9)
  replace HC := Lib.hid (HC.out.below HU.out)
  replace JX := Lib.hid (JX.out.below HU.out)
  replace JY := Lib.hid (JY.out.below HU.out)
  replace HB := Lib.hid (HB.out.trans ((HU.out).mono HB.out.size))
  clear HU s_0 s_1 v
  refine then_rest ?_
  refine rest_opsL 3 11 78 [_, _, _, _, _, _, _, _] (pk 3 [isV ?a4_3, isV ?a4_4, isV ?a4_5, isV ?a4_6, fun v u => AnyTm u v (errorT X s n), isV ?a4_8, isV ?a4_9, isV ?a4_10]) (fun _ _ => none) rfl (by kernel_rfl) (by kernel_rfl) rfl (.inr (by kernel_rfl)) ?hS4 ?hop4 ?_
  case hop4 =>
    refine hops_cons ?_ ?_
    · intro v u hu hs Q' hQ
      simp only [putAll, dstOf]
      clear hs
      go_wp2
      exact ⟨rfl, Below.refl _ _, by (show _ = _; rfl), fun _ h => nomatch h⟩
    refine hops_cons ?_ ?_
    · intro v u hu hs Q' hQ
      simp only [putAll, dstOf]
      have s_3 : v 3 = _ := hs 3 (by kernel_rfl) (by decide) (by decide)
      have y := HC.out.below hu
      have f0 := y.1
      have f1 := y.2.1
      have f2 := y.2.2.1
      have f3 := y.2.2.2.1
      have f4 := y.2.2.2.2.1
      have f5 := y.2.2.2.2.2.1
      have f6 := y.2.2.2.2.2.2.1
      have f7 := y.2.2.2.2.2.2.2.1
      clear y
      clear hs
      go_wp2
      exact ⟨rfl, Below.refl _ _, by (show _ = _; rfl), fun _ h => nomatch h⟩
    refine hops_cons ?_ ?_
    · intro v u hu hs Q' hQ
      simp only [putAll, dstOf]
      have s_3 : v 3 = _ := hs 3 (by kernel_rfl) (by decide) (by decide)
      clear hs
      go_wp2
      exact ⟨rfl, Below.refl _ _, by (show _ = _; rfl), fun _ h => nomatch h⟩
    refine hops_cons ?_ ?_
    · intro v u hu hs Q' hQ
      simp only [putAll, dstOf]
      have s_3 : v 3 = _ := hs 3 (by kernel_rfl) (by decide) (by decide)
      clear hs
      go_wp2
      exact ⟨rfl, Below.refl _ _, by (show _ = _; rfl), fun _ h => nomatch h⟩
    refine hops_cons ?_ ?_
    · intro v u hu hs Q' hQ
      simp only [putAll, dstOf]
      have s_3 : v 3 = _ := hs 3 (by kernel_rfl) (by decide) (by decide)
      have s_4 : v 4 = _ := hs 4 (by kernel_rfl) (by decide) (by decide)
      have s_5 : v 5 = _ := hs 5 (by kernel_rfl) (by decide) (by decide)
      have s_6 : v 6 = _ := hs 6 (by kernel_rfl) (by decide) (by decide)
      have y := HC.out.below hu
      have f0 := y.1
      have f1 := y.2.1
      have f2 := y.2.2.1
      have f3 := y.2.2.2.1
      have f4 := y.2.2.2.2.1
      have f5 := y.2.2.2.2.2.1
      have f6 := y.2.2.2.2.2.2.1
      have f7 := y.2.2.2.2.2.2.2.1
      clear y
      clear hs
      go_wp2_with (go_at_call 15; obtain ⟨P, hj⟩ := JX.out.below hu; refine (flt_error X s n _ P _ (by omega) hj).mono ?_; rintro e1 w1 ⟨v1, rfl, hi1, hb1⟩)
      exact ⟨rfl, hb1, ⟨_, hi1⟩, fun _ h => nomatch h⟩
    refine hops_cons ?_ ?_
    · intro v u hu hs Q' hQ
      simp only [putAll, dstOf]
      have s_3 : v 3 = _ := hs 3 (by kernel_rfl) (by decide) (by decide)
      have y := HC.out.below hu
      have f0 := y.1
      have f1 := y.2.1
      have f2 := y.2.2.1
      have f3 := y.2.2.2.1
      have f4 := y.2.2.2.2.1
      have f5 := y.2.2.2.2.2.1
      have f6 := y.2.2.2.2.2.2.1
      have f7 := y.2.2.2.2.2.2.2.1
      clear y
      clear hs
      go_wp2
      exact ⟨rfl, Below.refl _ _, by (show _ = _; rfl), fun _ h => nomatch h⟩
    refine hops_cons ?_ ?_
    · intro v u hu hs Q' hQ
      simp only [putAll, dstOf]
      have s_3 : v 3 = _ := hs 3 (by kernel_rfl) (by decide) (by decide)
      clear hs
      go_wp2
      exact ⟨rfl, Below.refl _ _, by (show _ = _; rfl), fun _ h => nomatch h⟩
    refine hops_cons ?_ ?_
    · intro v u hu hs Q' hQ
      simp only [putAll, dstOf]
      have s_3 : v 3 = _ := hs 3 (by kernel_rfl) (by decide) (by decide)
      clear hs
      go_wp2
      exact ⟨rfl, Below.refl _ _, by (show _ = _; rfl), fun _ h => nomatch h⟩
    exact hops_nil
  case hS4 =>
    intro j v u u' hkj hjn h hb
    match j, hkj, hjn, h with
    | 3, _, _, h => exact h
    | 4, _, _, h => exact h
    | 5, _, _, h => exact h
    | 6, _, _, h => exact h
    | 7, _, _, h => exact h.below hb
    | 8, _, _, h => exact h
    | 9, _, _, h => exact h
    | 10, _, _, h => exact h
    | q + 11, _, hq, _ => exact absurd hq (by omega)
  intro v u hu hs hap
  have s_3 : v 3 = _ := hs 3 (by decide) (by decide)
  have s_4 : v 4 = _ := hs 4 (by decide) (by decide)
  have s_5 : v 5 = _ := hs 5 (by decide) (by decide)
  have s_6 : v 6 = _ := hs 6 (by decide) (by decide)
  have s_7 : AnyTm u (v 7) (errorT X s n) := hs 7 (by decide) (by decide)
  have s_8 : v 8 = _ := hs 8 (by decide) (by decide)
  have s_9 : v 9 = _ := hs 9 (by decide) (by decide)
  have s_10 : v 10 = _ := hs 10 (by decide) (by decide)
  simp only [putAll, dstOf]
  replace HC := Lib.hid (HC.out.below hu)
  replace JX := Lib.hid (JX.out.below hu)
  replace JY := Lib.hid (JY.out.below hu)
  replace HB := Lib.hid (HB.out.trans ((hu).mono HB.out.size))
  clear hs hap hu
  have H1 := Lib.hid s_7
  clear s_7
  refine rest_lineL 11 14 [_, _, _] rfl (by kernel_rfl) (by decide) (by decide) (by kernel_rfl) ?_
  go_wp2_with (first
    | (go_at_call 16
       refine (ref_error X s n _ JY.out.choose _ JY.out.choose_spec).mono ?_
       rintro e1 w4 ⟨v4, rfl, hi4, hb4⟩
       have H2 : Hid (AnyTm w4 v4 (errorT X s n)) := Lib.hid ⟨_, hi4⟩
       replace H1 := Lib.hid (H1.out.below hb4)
       have HU1 := Lib.hid hb4
       clear hi4 hb4)
    | (go_at_call 14
       refine (same_same (t := errorT X s n) (errorT_small hXs2) _ _ _ H1.out H2.out).mono ?_
       rintro e1 w9 ⟨rfl, hb9⟩
       have HU := Lib.hid (HU1.out.trans (hb9.mono HU1.out.size))
       clear hb9))
  replace HC := Lib.hid (HC.out.below HU.out)
  replace JX := Lib.hid (JX.out.below HU.out)
  replace JY := Lib.hid (JY.out.below HU.out)
  replace HB := Lib.hid (HB.out.trans ((HU.out).mono HB.out.size))
  clear HU HU1 H1 H2 s_3 s_4 s_5 s_6 s_8 s_9 s_10
  refine then_rest ?_
  refine rest_opsL 14 20 78 [_, _, _, _, _, _] (pk 14 [isV ?a5_14, isV ?a5_15, isV ?a5_16, fun v u => AnyTm u v (unknownT s n), isV ?a5_18, isV ?a5_19]) (fun _ _ => none) rfl (by kernel_rfl) (by kernel_rfl) rfl (.inr (by kernel_rfl)) ?hS5 ?hop5 ?_
  case hop5 =>
    refine hops_cons ?_ ?_
    · intro v u hu hs Q' hQ
      simp only [putAll, dstOf]
      clear hs
      go_wp2
      exact ⟨rfl, Below.refl _ _, by (show _ = _; rfl), fun _ h => nomatch h⟩
    refine hops_cons ?_ ?_
    · intro v u hu hs Q' hQ
      simp only [putAll, dstOf]
      have s_14 : v 14 = _ := hs 14 (by kernel_rfl) (by decide) (by decide)
      clear hs
      go_wp2
      exact ⟨rfl, Below.refl _ _, by (show _ = _; rfl), fun _ h => nomatch h⟩
    refine hops_cons ?_ ?_
    · intro v u hu hs Q' hQ
      simp only [putAll, dstOf]
      have s_14 : v 14 = _ := hs 14 (by kernel_rfl) (by decide) (by decide)
      clear hs
      go_wp2
      exact ⟨rfl, Below.refl _ _, by (show _ = _; rfl), fun _ h => nomatch h⟩
    refine hops_cons ?_ ?_
    · intro v u hu hs Q' hQ
      simp only [putAll, dstOf]
      have s_14 : v 14 = _ := hs 14 (by kernel_rfl) (by decide) (by decide)
      have s_15 : v 15 = _ := hs 15 (by kernel_rfl) (by decide) (by decide)
      have s_16 : v 16 = _ := hs 16 (by kernel_rfl) (by decide) (by decide)
      have y := HC.out.below hu
      have f0 := y.1
      have f1 := y.2.1
      have f2 := y.2.2.1
      have f3 := y.2.2.2.1
      have f4 := y.2.2.2.2.1
      have f5 := y.2.2.2.2.2.1
      have f6 := y.2.2.2.2.2.2.1
      have f7 := y.2.2.2.2.2.2.2.1
      clear y
      clear hs
      go_wp2_with (go_at_call 17; refine (flt_unknown s n _).mono ?_; rintro e1 w1 ⟨v1, rfl, hi1, hb1⟩)
      exact ⟨rfl, hb1, ⟨_, hi1⟩, fun _ h => nomatch h⟩
    refine hops_cons ?_ ?_
    · intro v u hu hs Q' hQ
      simp only [putAll, dstOf]
      have s_14 : v 14 = _ := hs 14 (by kernel_rfl) (by decide) (by decide)
      clear hs
      go_wp2
      exact ⟨rfl, Below.refl _ _, by (show _ = _; rfl), fun _ h => nomatch h⟩
    refine hops_cons ?_ ?_
    · intro v u hu hs Q' hQ
      simp only [putAll, dstOf]
      have s_14 : v 14 = _ := hs 14 (by kernel_rfl) (by decide) (by decide)
      clear hs
      go_wp2
      exact ⟨rfl, Below.refl _ _, by (show _ = _; rfl), fun _ h => nomatch h⟩
    exact hops_nil
  case hS5 =>
    intro j v u u' hkj hjn h hb
    match j, hkj, hjn, h with
    | 14, _, _, h => exact h
    | 15, _, _, h => exact h
    | 16, _, _, h => exact h
    | 17, _, _, h => exact h.below hb
    | 18, _, _, h => exact h
    | 19, _, _, h => exact h
    | q + 20, _, hq, _ => exact absurd hq (by omega)
  intro v u hu hs hap
  have s_14 : v 14 = _ := hs 14 (by decide) (by decide)
  have s_15 : v 15 = _ := hs 15 (by decide) (by decide)
  have s_16 : v 16 = _ := hs 16 (by decide) (by decide)
  have s_17 : AnyTm u (v 17) (unknownT s n) := hs 17 (by decide) (by decide)
  have s_18 : v 18 = _ := hs 18 (by decide) (by decide)
  have s_19 : v 19 = _ := hs 19 (by decide) (by decide)
  simp only [putAll, dstOf]
  replace HC := Lib.hid (HC.out.below hu)
  replace JX := Lib.hid (JX.out.below hu)
  replace JY := Lib.hid (JY.out.below hu)
  replace HB := Lib.hid (HB.out.trans ((hu).mono HB.out.size))
  clear hs hap hu
  have H1 := Lib.hid s_17
  clear s_17
  refine rest_lineL 20 23 [_, _, _] rfl (by kernel_rfl) (by decide) (by decide) (by kernel_rfl) ?_
  go_wp2_with (first
    | (go_at_call 18
       refine (ref_unknown s n _).mono ?_
       rintro e1 w4 ⟨v4, rfl, hi4, hb4⟩
       have H2 : Hid (AnyTm w4 v4 (unknownT s n)) := Lib.hid ⟨_, hi4⟩
       replace H1 := Lib.hid (H1.out.below hb4)
       have HU1 := Lib.hid hb4
       clear hi4 hb4)
    | (go_at_call 14
       refine (same_same (t := unknownT s n) unknownT_small _ _ _ H1.out H2.out).mono ?_
       rintro e1 w9 ⟨rfl, hb9⟩
       have HU := Lib.hid (HU1.out.trans (hb9.mono HU1.out.size))
       clear hb9))
  replace HC := Lib.hid (HC.out.below HU.out)
  replace JX := Lib.hid (JX.out.below HU.out)
  replace JY := Lib.hid (JY.out.below HU.out)
  replace HB := Lib.hid (HB.out.trans ((HU.out).mono HB.out.size))
  clear HU HU1 H1 H2 s_14 s_15 s_16 s_18 s_19
  refine then_rest ?_
  refine rest_opsL 23 29 78 [_, _, _, _, _, _] (pk 23 [isV ?a6_23, isV ?a6_24, isV ?a6_25, fun v u => AnyTm u v (staticT (⟨#[109, 111, 100, 105, 102, 121]⟩ : ByteArray) s n), isV ?a6_27, isV ?a6_28]) (fun _ _ => none) rfl (by kernel_rfl) (by kernel_rfl) rfl (.inr (by kernel_rfl)) ?hS6 ?hop6 ?_
  case hop6 =>
    refine hops_cons ?_ ?_
    · intro v u hu hs Q' hQ
      simp only [putAll, dstOf]
      clear hs
      go_wp2
      exact ⟨rfl, Below.refl _ _, by (show _ = _; rfl), fun _ h => nomatch h⟩
    refine hops_cons ?_ ?_
    · intro v u hu hs Q' hQ
      simp only [putAll, dstOf]
      have s_23 : v 23 = _ := hs 23 (by kernel_rfl) (by decide) (by decide)
      clear hs
      go_wp2
      exact ⟨rfl, Below.refl _ _, by (show _ = _; rfl), fun _ h => nomatch h⟩
    refine hops_cons ?_ ?_
    · intro v u hu hs Q' hQ
      simp only [putAll, dstOf]
      have s_23 : v 23 = _ := hs 23 (by kernel_rfl) (by decide) (by decide)
      clear hs
      go_wp2
      exact ⟨rfl, Below.refl _ _, by (show _ = _; rfl), fun _ h => nomatch h⟩
    refine hops_cons ?_ ?_
    · intro v u hu hs Q' hQ
      simp only [putAll, dstOf]
      have s_23 : v 23 = _ := hs 23 (by kernel_rfl) (by decide) (by decide)
      have s_24 : v 24 = _ := hs 24 (by kernel_rfl) (by decide) (by decide)
      have s_25 : v 25 = _ := hs 25 (by kernel_rfl) (by decide) (by decide)
      have y := HC.out.below hu
      have f0 := y.1
      have f1 := y.2.1
      have f2 := y.2.2.1
      have f3 := y.2.2.2.1
      have f4 := y.2.2.2.2.1
      have f5 := y.2.2.2.2.2.1
      have f6 := y.2.2.2.2.2.2.1
      have f7 := y.2.2.2.2.2.2.2.1
      clear y
      clear hs
      go_wp2_with (go_at_call 19; refine (flt_static (⟨#[109, 111, 100, 105, 102, 121]⟩ : ByteArray) s n _).mono ?_; rintro e1 w1 ⟨v1, rfl, hi1, hb1⟩)
      exact ⟨rfl, hb1, ⟨_, hi1⟩, fun _ h => nomatch h⟩
    refine hops_cons ?_ ?_
    · intro v u hu hs Q' hQ
      simp only [putAll, dstOf]
      have s_23 : v 23 = _ := hs 23 (by kernel_rfl) (by decide) (by decide)
      clear hs
      go_wp2
      exact ⟨rfl, Below.refl _ _, by (show _ = _; rfl), fun _ h => nomatch h⟩
    refine hops_cons ?_ ?_
    · intro v u hu hs Q' hQ
      simp only [putAll, dstOf]
      have s_23 : v 23 = _ := hs 23 (by kernel_rfl) (by decide) (by decide)
      clear hs
      go_wp2
      exact ⟨rfl, Below.refl _ _, by (show _ = _; rfl), fun _ h => nomatch h⟩
    exact hops_nil
  case hS6 =>
    intro j v u u' hkj hjn h hb
    match j, hkj, hjn, h with
    | 23, _, _, h => exact h
    | 24, _, _, h => exact h
    | 25, _, _, h => exact h
    | 26, _, _, h => exact h.below hb
    | 27, _, _, h => exact h
    | 28, _, _, h => exact h
    | q + 29, _, hq, _ => exact absurd hq (by omega)
  intro v u hu hs hap
  have s_23 : v 23 = _ := hs 23 (by decide) (by decide)
  have s_24 : v 24 = _ := hs 24 (by decide) (by decide)
  have s_25 : v 25 = _ := hs 25 (by decide) (by decide)
  have s_26 : AnyTm u (v 26) (staticT (⟨#[109, 111, 100, 105, 102, 121]⟩ : ByteArray) s n) := hs 26 (by decide) (by decide)
  have s_27 : v 27 = _ := hs 27 (by decide) (by decide)
  have s_28 : v 28 = _ := hs 28 (by decide) (by decide)
  simp only [putAll, dstOf]
  replace HC := Lib.hid (HC.out.below hu)
  replace JX := Lib.hid (JX.out.below hu)
  replace JY := Lib.hid (JY.out.below hu)
  replace HB := Lib.hid (HB.out.trans ((hu).mono HB.out.size))
  clear hs hap hu
  have H1 := Lib.hid s_26
  clear s_26
  refine rest_lineL 29 32 [_, _, _] rfl (by kernel_rfl) (by decide) (by decide) (by kernel_rfl) ?_
  go_wp2_with (first
    | (go_at_call 20
       refine (ref_static (⟨#[109, 111, 100, 105, 102, 121]⟩ : ByteArray) s n _).mono ?_
       rintro e1 w4 ⟨v4, rfl, hi4, hb4⟩
       have H2 : Hid (AnyTm w4 v4 (staticT (⟨#[109, 111, 100, 105, 102, 121]⟩ : ByteArray) s n)) := Lib.hid ⟨_, hi4⟩
       replace H1 := Lib.hid (H1.out.below hb4)
       have HU1 := Lib.hid hb4
       clear hi4 hb4)
    | (go_at_call 14
       refine (same_same (t := staticT (⟨#[109, 111, 100, 105, 102, 121]⟩ : ByteArray) s n) staticT_small _ _ _ H1.out H2.out).mono ?_
       rintro e1 w9 ⟨rfl, hb9⟩
       have HU := Lib.hid (HU1.out.trans (hb9.mono HU1.out.size))
       clear hb9))
  replace HC := Lib.hid (HC.out.below HU.out)
  replace JX := Lib.hid (JX.out.below HU.out)
  replace JY := Lib.hid (JY.out.below HU.out)
  replace HB := Lib.hid (HB.out.trans ((HU.out).mono HB.out.size))
  clear HU HU1 H1 H2 s_23 s_24 s_25 s_27 s_28
  refine then_rest ?_
  refine rest_opsL 32 38 78 [_, _, _, _, _, _] (pk 32 [isV ?a7_32, isV ?a7_33, isV ?a7_34, fun v u => AnyTm u v (indT s n), isV ?a7_36, isV ?a7_37]) (fun _ _ => none) rfl (by kernel_rfl) (by kernel_rfl) rfl (.inr (by kernel_rfl)) ?hS7 ?hop7 ?_
  case hop7 =>
    refine hops_cons ?_ ?_
    · intro v u hu hs Q' hQ
      simp only [putAll, dstOf]
      clear hs
      go_wp2
      exact ⟨rfl, Below.refl _ _, by (show _ = _; rfl), fun _ h => nomatch h⟩
    refine hops_cons ?_ ?_
    · intro v u hu hs Q' hQ
      simp only [putAll, dstOf]
      have s_32 : v 32 = _ := hs 32 (by kernel_rfl) (by decide) (by decide)
      clear hs
      go_wp2
      exact ⟨rfl, Below.refl _ _, by (show _ = _; rfl), fun _ h => nomatch h⟩
    refine hops_cons ?_ ?_
    · intro v u hu hs Q' hQ
      simp only [putAll, dstOf]
      have s_32 : v 32 = _ := hs 32 (by kernel_rfl) (by decide) (by decide)
      clear hs
      go_wp2
      exact ⟨rfl, Below.refl _ _, by (show _ = _; rfl), fun _ h => nomatch h⟩
    refine hops_cons ?_ ?_
    · intro v u hu hs Q' hQ
      simp only [putAll, dstOf]
      have s_32 : v 32 = _ := hs 32 (by kernel_rfl) (by decide) (by decide)
      have s_33 : v 33 = _ := hs 33 (by kernel_rfl) (by decide) (by decide)
      have s_34 : v 34 = _ := hs 34 (by kernel_rfl) (by decide) (by decide)
      have y := HC.out.below hu
      have f0 := y.1
      have f1 := y.2.1
      have f2 := y.2.2.1
      have f3 := y.2.2.2.1
      have f4 := y.2.2.2.2.1
      have f5 := y.2.2.2.2.2.1
      have f6 := y.2.2.2.2.2.2.1
      have f7 := y.2.2.2.2.2.2.2.1
      clear y
      clear hs
      go_wp2_with (go_at_call 21; refine (flt_ind s n _).mono ?_; rintro e1 w1 ⟨v1, rfl, hi1, hb1⟩)
      exact ⟨rfl, hb1, ⟨_, hi1⟩, fun _ h => nomatch h⟩
    refine hops_cons ?_ ?_
    · intro v u hu hs Q' hQ
      simp only [putAll, dstOf]
      have s_32 : v 32 = _ := hs 32 (by kernel_rfl) (by decide) (by decide)
      clear hs
      go_wp2
      exact ⟨rfl, Below.refl _ _, by (show _ = _; rfl), fun _ h => nomatch h⟩
    refine hops_cons ?_ ?_
    · intro v u hu hs Q' hQ
      simp only [putAll, dstOf]
      have s_32 : v 32 = _ := hs 32 (by kernel_rfl) (by decide) (by decide)
      clear hs
      go_wp2
      exact ⟨rfl, Below.refl _ _, by (show _ = _; rfl), fun _ h => nomatch h⟩
    exact hops_nil
  case hS7 =>
    intro j v u u' hkj hjn h hb
    match j, hkj, hjn, h with
    | 32, _, _, h => exact h
    | 33, _, _, h => exact h
    | 34, _, _, h => exact h
    | 35, _, _, h => exact h.below hb
    | 36, _, _, h => exact h
    | 37, _, _, h => exact h
    | q + 38, _, hq, _ => exact absurd hq (by omega)
  intro v u hu hs hap
  have s_32 : v 32 = _ := hs 32 (by decide) (by decide)
  have s_33 : v 33 = _ := hs 33 (by decide) (by decide)
  have s_34 : v 34 = _ := hs 34 (by decide) (by decide)
  have s_35 : AnyTm u (v 35) (indT s n) := hs 35 (by decide) (by decide)
  have s_36 : v 36 = _ := hs 36 (by decide) (by decide)
  have s_37 : v 37 = _ := hs 37 (by decide) (by decide)
  simp only [putAll, dstOf]
  replace HC := Lib.hid (HC.out.below hu)
  replace JX := Lib.hid (JX.out.below hu)
  replace JY := Lib.hid (JY.out.below hu)
  replace HB := Lib.hid (HB.out.trans ((hu).mono HB.out.size))
  clear hs hap hu
  have H1 := Lib.hid s_35
  clear s_35
  refine rest_lineL 38 42 [_, _, _, _] rfl (by kernel_rfl) (by decide) (by decide) (by kernel_rfl) ?_
  go_wp2_with (first
    | (go_at_call 22
       refine (ref_ind s n _).mono ?_
       rintro e1 w4 ⟨v4, rfl, hi4, hb4⟩
       have H2 : Hid (AnyTm w4 v4 (indT s n)) := Lib.hid ⟨_, hi4⟩
       replace H1 := Lib.hid (H1.out.below hb4)
       have HU1 := Lib.hid hb4
       clear hi4 hb4)
    | (go_at_call 14
       refine (same_same (t := indT s n) indT_small _ _ _ H1.out H2.out).mono ?_
       rintro e1 w9 ⟨rfl, hb9⟩
       have HU := Lib.hid (HU1.out.trans (hb9.mono HU1.out.size))
       clear hb9))
  replace HC := Lib.hid (HC.out.below HU.out)
  replace JX := Lib.hid (JX.out.below HU.out)
  replace JY := Lib.hid (JY.out.below HU.out)
  replace HB := Lib.hid (HB.out.trans ((HU.out).mono HB.out.size))
  clear HU HU1 H1 H2 s_32 s_33 s_34 s_36 s_37
  refine then_rest (rest_end (by decide) ?_)
  go_wp2
  go_ret
  exact ⟨rfl, HB.out⟩
end Go.Proofs.Ytlndoogiflcoeaa.Tms
