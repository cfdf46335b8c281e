
/-
  The reference's Unify and Has, of whatever cells; the program's (printed by gen_rbu.py).
-/
import Derived.Test.YtoklbeogmcdgaaaBot
import Derived.Test.YtoklbeogmcdgaaaPlv
namespace Go.Proofs.Ytoklbeogmcdgaaa.Tms
open Go Go.RowKit Go.Proofs.Ytoklbeogmcdgaaa.Reg Go.Proofs.Ytoklbeogmcdgaaa.Rws Go.Proofs.Ytoklbeogmcdgaaa.Maps
set_option linter.unusedVariables false
set_option linter.unusedSimpArgs false

open Classical in
/-- what Unify answers, of any cells -/
noncomputable def unA (S : Sto) (sf : Bool) (a b : Int) : Bool × Int := if inR S a ∧ inR S b then (hasB (uniR S sf a.toNat b.toNat), hasE (uniR S sf a.toNat b.toNat)) else (false, 2)
open Classical in
/-- what it leaves -/
noncomputable def unW (S : Sto) (sf : Bool) (a b : Int) : Sto := if inR S a ∧ inR S b then uniW S sf a.toNat b.toNat else S
theorem unW_ext {S : Sto} (hI : Inv S) (sf : Bool) (a b : Int) : Ext S (unW S sf a b) := by
  unfold unW
  split
  · rename_i h
    unfold inR at h
    exact uniW_ext hI (by omega) (by omega)
  · exact .refl hI
section
variable {w0 w w1 w2 w3 : World} {q : Nat} {S T : Sto} {E E2 : Nat → Prop} {cv bv2 : Value} {A : Nat → Prop} {sf ov : Bool} {r : Option Bool × Sto × Nat} {n : Int}
theorem bo_keeps (hb : Below w.heap.size w w1) (h : BoSt w1 q w.heap.size sf E cv A r E2 bv2 n ov w2) : Keeps w w2 E ∧ ∀ b, E2 b → E b ∨ (w.heap.size ≤ b ∧ b < w2.heap.size) := by
  have z1 := hb.size
  refine ⟨⟨h.kp.os.trans hb.os, h.kp.tape.trans hb.tape, h.kp.output.trans hb.output, Nat.le_trans z1 h.kp.size, fun b hlt hn => (h.kp.block b (by omega) fun e => ?_).trans (hb.block b hlt)⟩, fun b hb' => (h.gr b hb').imp_right fun e => ⟨by omega, e.2⟩⟩
  rcases e with e | e
  · exact hn e
  · omega
theorem bo_undone (hb : Below w.heap.size w w1) (h : BoSt w1 q w.heap.size sf E cv A r E2 bv2 n ov w2) (hr : RefAt w3 E2 q S) (hk : Keeps w2 w3 E2) : RefDid w w3 E q S := by
  obtain ⟨k1, k2⟩ := bo_keeps hb h
  have z1 := k1.size
  refine ⟨E2, hr, ⟨hk.os.trans k1.os, hk.tape.trans k1.tape, hk.output.trans k1.output, Nat.le_trans z1 hk.size, fun b hlt hn => (hk.block b (by omega) fun e => ?_).trans (k1.block b hlt hn)⟩, fun b hb' => (k2 b hb').imp_right fun e => ⟨e.1, by have := hk.size; omega⟩⟩
  rcases k2 b e with e | e
  · exact hn e
  · omega
theorem bo_did (hb : Below w.heap.size w w1) (h : BoSt w1 q w.heap.size sf E cv A r E2 bv2 n ov w2) : RefDid w w2 E q r.2.1 := ⟨E2, ⟨_, _, _, h.bo.rr⟩, (bo_keeps hb h).1, (bo_keeps hb h).2⟩
end
set_option maxRecDepth 100000 in
set_option maxHeartbeats 4000000 in
theorem ref_UnifyIn {S : Sto} {E : Nat → Prop} {q : Nat} (w : World) (hS : RefAt w E q S) (hI : Inv S) (sf : Bool) (a b : Nat) (ha : a < S.cells.length) (hb : b < S.cells.length) :
    Calls Try.prog 50 #[.pointer (some ⟨q, 0, none⟩), .int .i64 a, .int .i64 b, .bool sf] w fun e w' => e = .returned (.tuple #[.bool (hasB (uniR S sf a b)), .int .i64 (hasE (uniR S sf a b))]) ∧ RefDid w w' E q (uniW S sf a b) := by
  have hs := hS
  obtain ⟨cv, bv, A, hrow⟩ := hs
  obtain ⟨g, cap, av, rfl, -, -, -⟩ := hrow.cell a ha
  obtain ⟨qb, cb, e⟩ := own_form hrow.bonds
  rw [List.length_map] at e
  subst e
  have hwl := hrow.dl q hrow.dp
  have hsm := hI.small
  have HT1 := Lib.hid (ref_there w hS a)
  have HT2 := Lib.hid (ref_there w hS b)
  have HD1 := Lib.hid (dec_yes ha)
  have HD2 := Lib.hid (dec_yes hb)
  have hbn := below_new w (wkO q 0 sf false)
  have hrn := heap_alloc_new w (wkO q 0 sf false)
  have hbo : BoAt (w.alloc (wkO q 0 sf false)) q w.heap.size sf false (20000 - ((20000 : Nat) : Int)) S E (.slice (some ⟨g, 0, none⟩) S.cells.length cap) (.slice qb S.bonds.length cb) A := ⟨by simpa using hrn, hrow.below hbn, fun e => by have := hrow.dl _ e; omega⟩
  have HQ := Lib.hid (ref_Both hsm 20000 S E _ a b _ hI rfl hbo ha hb (Nat.le_refl _))
  have HB := Lib.hid hbn
  have HI := Lib.hid hI
  have hun : uniR S sf a b = (uniK sf 20000 S [(a, b)]).1 := rfl
  have huw : uniW S sf a b = if uniR S sf a b = some true then (uniK sf 20000 S [(a, b)]).2.1 else S := rfl
  have hext := uniP_ext sf 20000 20000 S [(a, b)] hI (inl1 ha hb)
  have hext' : Ext S (uniK sf 20000 S [(a, b)]).2.1 := hext
  rw [hun] at huw ⊢
  have HUW := Lib.hid huw
  have HEX := Lib.hid hext'
  obtain ⟨x0, x1, x2⟩ := row3 hrow.row
  clear hS hrow hbn hrn hbo hI hun huw hext hext'
  go_enter Try.func50, Try.ntmps50
  go_wp2_with fail
  refine HT1.out.mono ?_
  rintro e1 w1 ⟨rfl, rfl⟩
  rw [HD1.out]
  go_wp2_with fail
  refine HT2.out.mono ?_
  rintro e1 w1 ⟨rfl, rfl⟩
  rw [HD2.out]
  go_wp2_with fail
  refine HQ.out.mono ?_
  rintro e2 w2 ⟨rfl, E2, bv2, n2, ov2, hbo⟩
  obtain ⟨r, hr⟩ : ∃ r, r = uniK sf 20000 S [(a, b)] := ⟨_, rfl⟩
  rw [← hr] at HUW HEX hbo ⊢
  obtain ⟨o, T, kk⟩ := r
  have HR := Lib.hid hr
  dsimp only at HUW HEX ⊢
  have HBO := Lib.hid hbo
  have hno := hbo.no
  have hok := hbo.ok
  dsimp only at hno hok
  obtain ⟨y0, y1, y2, y3⟩ := row4r hbo.bo.row
  have HU := Lib.hid (ref_Undo w2 ⟨_, _, _, hbo.bo.rr⟩ HEX.out.inv.bndOk (S.bonds.length : Nat))
  have HSU := Lib.hid HEX.out.since.undo
  clear hr hbo HQ HT1 HT2 x0 x1 x2 y0 y1 y2
  cases o with
  | none =>
    obtain rfl := hno rfl
    clear hok hno
    go_wp2_with fail
    refine HU.out.mono ?_
    rintro e3 w3 ⟨rfl, hs3, hk3⟩
    rw [HSU.out] at hs3
    have HF := Lib.hid (bo_undone HB.out HBO.out hs3 hk3)
    clear hs3 hk3 HU y3
    go_wp2
    go_ret2
    rw [HUW.out, ← HR.out]
    exact ⟨rfl, HF.out⟩
  | some bb =>
    obtain ⟨rfl, -⟩ := hok (by simp)
    clear hok hno
    cases bb with
    | false =>
      have b1 : hasB (some false) = false := rfl
      rw [b1]
      go_wp2_with fail
      refine HU.out.mono ?_
      rintro e3 w3 ⟨rfl, hs3, hk3⟩
      rw [HSU.out] at hs3
      have HF := Lib.hid (bo_undone HB.out HBO.out hs3 hk3)
      clear hs3 hk3 HU y3
      go_wp2
      go_ret2
      rw [HUW.out, ← HR.out]
      exact ⟨rfl, HF.out⟩
    | true =>
      have b1 : hasB (some true) = true := rfl
      rw [b1]
      have HF := Lib.hid (bo_did HB.out HBO.out)
      go_wp2
      go_ret2
      rw [HUW.out, ← HR.out]
      exact ⟨rfl, HF.out⟩
set_option maxRecDepth 100000 in
set_option maxHeartbeats 4000000 in
theorem ref_Unify_no {S : Sto} {E : Nat → Prop} {q : Nat} (w : World) (hS : RefAt w E q S) (sf : Bool) (a b : Int) (hx : ¬ (inR S a ∧ inR S b)) :
    Calls Try.prog 50 #[.pointer (some ⟨q, 0, none⟩), .int .i64 a, .int .i64 b, .bool sf] w fun e w' => e = .returned (.tuple #[.bool false, .int .i64 2]) ∧ w = w' := by
  have HT1 := Lib.hid (ref_there w hS a)
  have HT2 := Lib.hid (ref_there w hS b)
  by_cases h1 : inR S a
  · have h2 : ¬ inR S b := fun h => hx ⟨h1, h⟩
    unfold inR at h1 h2
    obtain ⟨a, rfl⟩ : ∃ n : Nat, a = n := ⟨a.toNat, by omega⟩
    have HD1 := Lib.hid (dec_yes (x := a) (n := S.cells.length) (by omega))
    have HD2 := Lib.hid (dec_no h2)
    clear hx h1 h2 hS
    go_enter Try.func50, Try.ntmps50
    go_wp2_with fail
    refine HT1.out.mono ?_
    rintro e1 w1 ⟨rfl, rfl⟩
    rw [HD1.out]
    go_wp2_with fail
    refine HT2.out.mono ?_
    rintro e1 w1 ⟨rfl, rfl⟩
    rw [HD2.out]
    go_wp2
    go_ret2
    exact ⟨rfl, rfl⟩
  · unfold inR at h1
    have HD1 := Lib.hid (dec_no h1)
    clear hx h1 hS
    go_enter Try.func50, Try.ntmps50
    go_wp2_with fail
    refine HT1.out.mono ?_
    rintro e1 w1 ⟨rfl, rfl⟩
    rw [HD1.out]
    go_wp2
    go_ret2
    exact ⟨rfl, rfl⟩
theorem chainP_skip {P : Program} {ops : Array Oper} {K : Act → World → Prop} {S : World → Prop} {a : Act} {w : World} {o : Oper} {r : Po} (hg : Region.wanted o (yielded ops a.tmps) = false)
    (hr : ChainP P ops K S r (a.put o.dst undef) w) : ChainP P ops K S (.soft o r) a w := fun _ => ⟨undef, .inr ⟨hg, rfl⟩, hr⟩
open Classical in
/-- what Has answers, of any cells -/
noncomputable def haA (S : Sto) (v x : Int) : Bool × Int := if inR S v ∧ inR S x ∧ (cellF S v.toNat).k = 1 then (hasB (hasV S v.toNat x.toNat), hasE (hasV S v.toNat x.toNat)) else (false, 2)
set_option maxRecDepth 100000 in
set_option maxHeartbeats 4000000 in
theorem ref_HasIn {S : Sto} {E : Nat → Prop} {q : Nat} (w : World) (hS : RefAt w E q S) (hI : Inv S) (v x : Int) :
    Calls Try.prog 52 #[.pointer (some ⟨q, 0, none⟩), .int .i64 v, .int .i64 x] w fun e w' => e = .returned (.tuple #[.bool (haA S v x).1, .int .i64 (haA S v x).2]) ∧ Below w.heap.size w w' := by
  have HI := Lib.hid hI
  have hsm := hI.small
  have hdb := (Below.refl w.heap.size w).drew
  have HDB := Lib.hid hdb
  have hs0 := hS.below hdb
  have hbd : ¬ (inR S v ∧ inR S x ∧ (cellF S v.toNat).k = 1) → haA S v x = (false, 2) := fun h => if_neg h
  have hgd : inR S v ∧ inR S x ∧ (cellF S v.toNat).k = 1 → haA S v x = (hasB (hasV S v.toNat x.toNat), hasE (hasV S v.toNat x.toNat)) := fun h => if_pos h
  have HBD := Lib.hid hbd
  have HGD := Lib.hid hgd
  clear hI hS hdb hbd hgd
  by_cases h1 : ¬ inR S v
  · have HAA := Lib.hid (HBD.out fun h => h1 h.1)
    have HD1 := Lib.hid (dec_no (show ¬ (0 ≤ v ∧ v < S.cells.length) from h1))
    clear h1 HBD HGD
    go_enter Try.func52, Try.ntmps52
    go_upto_region 1 with fail
    refine wp_region_rest (by kernel_rfl) ?_
    generalize w.drew = W0 at *
    have HT1 := Lib.hid (ref_there W0 hs0 v)
    have HT2 := Lib.hid (ref_there W0 hs0 x)
    clear hs0
    refine rest_lineL 0 2 [_, _] rfl (by kernel_rfl) (by decide) (by decide) (by kernel_rfl) ?_
    go_wp2
    refine then_rest ?_
    refine rest_chainP (SameW W0) 2 27 (.soft 2 (.soft 3 (.soft 4 (.one 5 (.soft 6 (.soft 7 (.soft 8 (.soft 9 (.soft 10 (.one 11 (.soft 12 (.soft 13 (.soft 14 (.soft 15 (.soft 16 (.soft 17 (.soft 18 (.soft 19 (.soft 20 (.one 21 (.soft 22 (.soft 23 (.soft 24 (.soft 25 (.soft 26 .nil))))))))))))))))))))))))) (.soft _ (.soft _ (.soft _ (.one _ (.soft _ (.soft _ (.soft _ (.soft _ (.soft _ (.one _ (.soft _ (.soft _ (.soft _ (.soft _ (.soft _ (.soft _ (.soft _ (.soft _ (.soft _ (.one _ (.soft _ (.soft _ (.soft _ (.soft _ (.soft _ .nil))))))))))))))))))))))))) ⟨rfl, ⟨rfl, ⟨rfl, ⟨rfl, ⟨rfl, ⟨rfl, ⟨rfl, ⟨rfl, ⟨rfl, ⟨rfl, ⟨rfl, ⟨rfl, ⟨rfl, ⟨rfl, ⟨rfl, ⟨rfl, ⟨rfl, ⟨rfl, ⟨rfl, ⟨rfl, ⟨rfl, ⟨rfl, ⟨rfl, ⟨rfl, ⟨rfl, trivial⟩⟩⟩⟩⟩⟩⟩⟩⟩⟩⟩⟩⟩⟩⟩⟩⟩⟩⟩⟩⟩⟩⟩⟩⟩ (by kernel_rfl) (by kernel_rfl) (by kernel_rfl) (by kernel_rfl) (.inl rfl) (SameW.me W0) ?_
    refine chainP_soft (a1 := ?ma1) (by kernel_rfl) (by kernel_rfl) ?mh1 ?mr1
    case mh1 =>
      intro u hu E hE
      have hu' := hu.eq
      subst hu'
      go_wp2
      rfl
    refine chainP_soft (a1 := ?ma2) (by kernel_rfl) (by kernel_rfl) ?mh2 ?mr2
    case mh2 =>
      intro u hu E hE
      have hu' := hu.eq
      subst hu'
      go_wp2
      rfl
    refine chainP_soft (a1 := ?ma3) (by kernel_rfl) (by kernel_rfl) ?mh3 ?mr3
    case mh3 =>
      intro u hu E hE
      have hu' := hu.eq
      subst hu'
      go_wp2
      rfl
    refine chainP_one ?_
    intro E hE
    go_wp2_with fail
    refine HT1.out.mono ?_
    rintro e6 w6 ⟨rfl, rfl⟩
    rw [HD1.out]
    go_wp2
    refine ⟨SameW.me _, ?_⟩
    refine chainP_soft (a1 := ?ma4) (by kernel_rfl) (by kernel_rfl) ?mh4 ?mr4
    case mh4 =>
      intro u hu E hE
      have hu' := hu.eq
      subst hu'
      go_wp2
      rfl
    refine chainP_soft (a1 := ?ma5) (by kernel_rfl) (by kernel_rfl) ?mh5 ?mr5
    case mh5 =>
      intro u hu E hE
      have hu' := hu.eq
      subst hu'
      go_wp2
      rfl
    refine chainP_soft (a1 := ?ma6) (by kernel_rfl) (by kernel_rfl) ?mh6 ?mr6
    case mh6 =>
      intro u hu E hE
      have hu' := hu.eq
      subst hu'
      go_wp2
      rfl
    refine Go.Proofs.Ytoklbeogmcdgaaa.Tms.chainP_skip rfl ?_
    simp only [Act.put, List.getElem?_toArray, List.getElem?_cons_succ, List.getElem?_cons_zero, Option.bind_some, List.setIfInBounds_toArray, List.set_cons_succ, List.set_cons_zero, Nat.reduceAdd]
    refine Go.Proofs.Ytoklbeogmcdgaaa.Tms.chainP_skip rfl ?_
    simp only [Act.put, List.getElem?_toArray, List.getElem?_cons_succ, List.getElem?_cons_zero, Option.bind_some, List.setIfInBounds_toArray, List.set_cons_succ, List.set_cons_zero, Nat.reduceAdd]
    refine chainP_one ?_
    intro E hE
    go_wp2
    refine ⟨SameW.me _, ?_⟩
    refine Go.Proofs.Ytoklbeogmcdgaaa.Tms.chainP_skip rfl ?_
    simp only [Act.put, List.getElem?_toArray, List.getElem?_cons_succ, List.getElem?_cons_zero, Option.bind_some, List.setIfInBounds_toArray, List.set_cons_succ, List.set_cons_zero, Nat.reduceAdd]
    refine chainP_soft (a1 := ?ma7) (by kernel_rfl) (by kernel_rfl) ?mh7 ?mr7
    case mh7 =>
      intro u hu E hE
      have hu' := hu.eq
      subst hu'
      go_wp2
      rfl
    refine chainP_soft (a1 := ?ma8) (by kernel_rfl) (by kernel_rfl) ?mh8 ?mr8
    case mh8 =>
      intro u hu E hE
      have hu' := hu.eq
      subst hu'
      go_wp2
      rfl
    refine Go.Proofs.Ytoklbeogmcdgaaa.Tms.chainP_skip rfl ?_
    simp only [Act.put, List.getElem?_toArray, List.getElem?_cons_succ, List.getElem?_cons_zero, Option.bind_some, List.setIfInBounds_toArray, List.set_cons_succ, List.set_cons_zero, Nat.reduceAdd]
    refine Go.Proofs.Ytoklbeogmcdgaaa.Tms.chainP_skip rfl ?_
    simp only [Act.put, List.getElem?_toArray, List.getElem?_cons_succ, List.getElem?_cons_zero, Option.bind_some, List.setIfInBounds_toArray, List.set_cons_succ, List.set_cons_zero, Nat.reduceAdd]
    refine Go.Proofs.Ytoklbeogmcdgaaa.Tms.chainP_skip rfl ?_
    simp only [Act.put, List.getElem?_toArray, List.getElem?_cons_succ, List.getElem?_cons_zero, Option.bind_some, List.setIfInBounds_toArray, List.set_cons_succ, List.set_cons_zero, Nat.reduceAdd]
    refine Go.Proofs.Ytoklbeogmcdgaaa.Tms.chainP_skip rfl ?_
    simp only [Act.put, List.getElem?_toArray, List.getElem?_cons_succ, List.getElem?_cons_zero, Option.bind_some, List.setIfInBounds_toArray, List.set_cons_succ, List.set_cons_zero, Nat.reduceAdd]
    refine Go.Proofs.Ytoklbeogmcdgaaa.Tms.chainP_skip rfl ?_
    simp only [Act.put, List.getElem?_toArray, List.getElem?_cons_succ, List.getElem?_cons_zero, Option.bind_some, List.setIfInBounds_toArray, List.set_cons_succ, List.set_cons_zero, Nat.reduceAdd]
    refine Go.Proofs.Ytoklbeogmcdgaaa.Tms.chainP_skip rfl ?_
    simp only [Act.put, List.getElem?_toArray, List.getElem?_cons_succ, List.getElem?_cons_zero, Option.bind_some, List.setIfInBounds_toArray, List.set_cons_succ, List.set_cons_zero, Nat.reduceAdd]
    refine chainP_one ?_
    intro E hE
    go_wp2
    refine ⟨SameW.me _, ?_⟩
    refine Go.Proofs.Ytoklbeogmcdgaaa.Tms.chainP_skip rfl ?_
    simp only [Act.put, List.getElem?_toArray, List.getElem?_cons_succ, List.getElem?_cons_zero, Option.bind_some, List.setIfInBounds_toArray, List.set_cons_succ, List.set_cons_zero, Nat.reduceAdd]
    refine Go.Proofs.Ytoklbeogmcdgaaa.Tms.chainP_skip rfl ?_
    simp only [Act.put, List.getElem?_toArray, List.getElem?_cons_succ, List.getElem?_cons_zero, Option.bind_some, List.setIfInBounds_toArray, List.set_cons_succ, List.set_cons_zero, Nat.reduceAdd]
    refine Go.Proofs.Ytoklbeogmcdgaaa.Tms.chainP_skip rfl ?_
    simp only [Act.put, List.getElem?_toArray, List.getElem?_cons_succ, List.getElem?_cons_zero, Option.bind_some, List.setIfInBounds_toArray, List.set_cons_succ, List.set_cons_zero, Nat.reduceAdd]
    refine Go.Proofs.Ytoklbeogmcdgaaa.Tms.chainP_skip rfl ?_
    simp only [Act.put, List.getElem?_toArray, List.getElem?_cons_succ, List.getElem?_cons_zero, Option.bind_some, List.setIfInBounds_toArray, List.set_cons_succ, List.set_cons_zero, Nat.reduceAdd]
    refine chainP_soft (a1 := ?ma9) (by kernel_rfl) (by kernel_rfl) ?mh9 ?mr9
    case mh9 =>
      intro u hu E hE
      have hu' := hu.eq
      subst hu'
      go_wp2
      rfl
    refine chainP_nil (rest_end (by decide) ?_)
    go_wp2
    go_ret2
    rw [HAA.out]
    exact ⟨rfl, HDB.out⟩
  have h1' : inR S v := Classical.byContradiction h1
  have hv0 := h1'
  unfold inR at hv0
  obtain ⟨v, rfl⟩ : ∃ n : Nat, v = n := ⟨v.toNat, by omega⟩
  have HD1 := Lib.hid (dec_yes (x := v) (n := S.cells.length) (by omega))
  by_cases h2 : ¬ inR S x
  · have HAA := Lib.hid (HBD.out fun h => h2 h.2.1)
    have HD2 := Lib.hid (dec_no (show ¬ (0 ≤ x ∧ x < S.cells.length) from h2))
    clear h1 h2 h1' HBD HGD
    go_enter Try.func52, Try.ntmps52
    go_upto_region 1 with fail
    refine wp_region_rest (by kernel_rfl) ?_
    generalize w.drew = W0 at *
    have HT1 := Lib.hid (ref_there W0 hs0 v)
    have HT2 := Lib.hid (ref_there W0 hs0 x)
    clear hs0
    refine rest_lineL 0 2 [_, _] rfl (by kernel_rfl) (by decide) (by decide) (by kernel_rfl) ?_
    go_wp2
    refine then_rest ?_
    refine rest_chainP (SameW W0) 2 27 (.soft 2 (.soft 3 (.soft 4 (.one 5 (.soft 6 (.soft 7 (.soft 8 (.soft 9 (.soft 10 (.one 11 (.soft 12 (.soft 13 (.soft 14 (.soft 15 (.soft 16 (.soft 17 (.soft 18 (.soft 19 (.soft 20 (.one 21 (.soft 22 (.soft 23 (.soft 24 (.soft 25 (.soft 26 .nil))))))))))))))))))))))))) (.soft _ (.soft _ (.soft _ (.one _ (.soft _ (.soft _ (.soft _ (.soft _ (.soft _ (.one _ (.soft _ (.soft _ (.soft _ (.soft _ (.soft _ (.soft _ (.soft _ (.soft _ (.soft _ (.one _ (.soft _ (.soft _ (.soft _ (.soft _ (.soft _ .nil))))))))))))))))))))))))) ⟨rfl, ⟨rfl, ⟨rfl, ⟨rfl, ⟨rfl, ⟨rfl, ⟨rfl, ⟨rfl, ⟨rfl, ⟨rfl, ⟨rfl, ⟨rfl, ⟨rfl, ⟨rfl, ⟨rfl, ⟨rfl, ⟨rfl, ⟨rfl, ⟨rfl, ⟨rfl, ⟨rfl, ⟨rfl, ⟨rfl, ⟨rfl, ⟨rfl, trivial⟩⟩⟩⟩⟩⟩⟩⟩⟩⟩⟩⟩⟩⟩⟩⟩⟩⟩⟩⟩⟩⟩⟩⟩⟩ (by kernel_rfl) (by kernel_rfl) (by kernel_rfl) (by kernel_rfl) (.inl rfl) (SameW.me W0) ?_
    refine chainP_soft (a1 := ?ma10) (by kernel_rfl) (by kernel_rfl) ?mh10 ?mr10
    case mh10 =>
      intro u hu E hE
      have hu' := hu.eq
      subst hu'
      go_wp2
      rfl
    refine chainP_soft (a1 := ?ma11) (by kernel_rfl) (by kernel_rfl) ?mh11 ?mr11
    case mh11 =>
      intro u hu E hE
      have hu' := hu.eq
      subst hu'
      go_wp2
      rfl
    refine chainP_soft (a1 := ?ma12) (by kernel_rfl) (by kernel_rfl) ?mh12 ?mr12
    case mh12 =>
      intro u hu E hE
      have hu' := hu.eq
      subst hu'
      go_wp2
      rfl
    refine chainP_one ?_
    intro E hE
    go_wp2_with fail
    refine HT1.out.mono ?_
    rintro e6 w6 ⟨rfl, rfl⟩
    rw [HD1.out]
    go_wp2
    refine ⟨SameW.me _, ?_⟩
    refine chainP_soft (a1 := ?ma13) (by kernel_rfl) (by kernel_rfl) ?mh13 ?mr13
    case mh13 =>
      intro u hu E hE
      have hu' := hu.eq
      subst hu'
      go_wp2
      rfl
    refine chainP_soft (a1 := ?ma14) (by kernel_rfl) (by kernel_rfl) ?mh14 ?mr14
    case mh14 =>
      intro u hu E hE
      have hu' := hu.eq
      subst hu'
      go_wp2
      rfl
    refine chainP_soft (a1 := ?ma15) (by kernel_rfl) (by kernel_rfl) ?mh15 ?mr15
    case mh15 =>
      intro u hu E hE
      have hu' := hu.eq
      subst hu'
      go_wp2
      rfl
    refine chainP_soft (a1 := ?ma16) (by kernel_rfl) (by kernel_rfl) ?mh16 ?mr16
    case mh16 =>
      intro u hu E hE
      have hu' := hu.eq
      subst hu'
      go_wp2
      rfl
    refine chainP_soft (a1 := ?ma17) (by kernel_rfl) (by kernel_rfl) ?mh17 ?mr17
    case mh17 =>
      intro u hu E hE
      have hu' := hu.eq
      subst hu'
      go_wp2
      rfl
    refine chainP_one ?_
    intro E hE
    go_wp2_with fail
    refine HT2.out.mono ?_
    rintro e6 w6 ⟨rfl, rfl⟩
    rw [HD2.out]
    go_wp2
    refine ⟨SameW.me _, ?_⟩
    refine chainP_soft (a1 := ?ma18) (by kernel_rfl) (by kernel_rfl) ?mh18 ?mr18
    case mh18 =>
      intro u hu E hE
      have hu' := hu.eq
      subst hu'
      go_wp2
      rfl
    refine chainP_soft (a1 := ?ma19) (by kernel_rfl) (by kernel_rfl) ?mh19 ?mr19
    case mh19 =>
      intro u hu E hE
      have hu' := hu.eq
      subst hu'
      go_wp2
      rfl
    refine chainP_soft (a1 := ?ma20) (by kernel_rfl) (by kernel_rfl) ?mh20 ?mr20
    case mh20 =>
      intro u hu E hE
      have hu' := hu.eq
      subst hu'
      go_wp2
      rfl
    refine Go.Proofs.Ytoklbeogmcdgaaa.Tms.chainP_skip rfl ?_
    simp only [Act.put, List.getElem?_toArray, List.getElem?_cons_succ, List.getElem?_cons_zero, Option.bind_some, List.setIfInBounds_toArray, List.set_cons_succ, List.set_cons_zero, Nat.reduceAdd]
    refine Go.Proofs.Ytoklbeogmcdgaaa.Tms.chainP_skip rfl ?_
    simp only [Act.put, List.getElem?_toArray, List.getElem?_cons_succ, List.getElem?_cons_zero, Option.bind_some, List.setIfInBounds_toArray, List.set_cons_succ, List.set_cons_zero, Nat.reduceAdd]
    refine Go.Proofs.Ytoklbeogmcdgaaa.Tms.chainP_skip rfl ?_
    simp only [Act.put, List.getElem?_toArray, List.getElem?_cons_succ, List.getElem?_cons_zero, Option.bind_some, List.setIfInBounds_toArray, List.set_cons_succ, List.set_cons_zero, Nat.reduceAdd]
    refine Go.Proofs.Ytoklbeogmcdgaaa.Tms.chainP_skip rfl ?_
    simp only [Act.put, List.getElem?_toArray, List.getElem?_cons_succ, List.getElem?_cons_zero, Option.bind_some, List.setIfInBounds_toArray, List.set_cons_succ, List.set_cons_zero, Nat.reduceAdd]
    refine Go.Proofs.Ytoklbeogmcdgaaa.Tms.chainP_skip rfl ?_
    simp only [Act.put, List.getElem?_toArray, List.getElem?_cons_succ, List.getElem?_cons_zero, Option.bind_some, List.setIfInBounds_toArray, List.set_cons_succ, List.set_cons_zero, Nat.reduceAdd]
    refine Go.Proofs.Ytoklbeogmcdgaaa.Tms.chainP_skip rfl ?_
    simp only [Act.put, List.getElem?_toArray, List.getElem?_cons_succ, List.getElem?_cons_zero, Option.bind_some, List.setIfInBounds_toArray, List.set_cons_succ, List.set_cons_zero, Nat.reduceAdd]
    refine chainP_one ?_
    intro E hE
    go_wp2
    refine ⟨SameW.me _, ?_⟩
    refine Go.Proofs.Ytoklbeogmcdgaaa.Tms.chainP_skip rfl ?_
    simp only [Act.put, List.getElem?_toArray, List.getElem?_cons_succ, List.getElem?_cons_zero, Option.bind_some, List.setIfInBounds_toArray, List.set_cons_succ, List.set_cons_zero, Nat.reduceAdd]
    refine Go.Proofs.Ytoklbeogmcdgaaa.Tms.chainP_skip rfl ?_
    simp only [Act.put, List.getElem?_toArray, List.getElem?_cons_succ, List.getElem?_cons_zero, Option.bind_some, List.setIfInBounds_toArray, List.set_cons_succ, List.set_cons_zero, Nat.reduceAdd]
    refine Go.Proofs.Ytoklbeogmcdgaaa.Tms.chainP_skip rfl ?_
    simp only [Act.put, List.getElem?_toArray, List.getElem?_cons_succ, List.getElem?_cons_zero, Option.bind_some, List.setIfInBounds_toArray, List.set_cons_succ, List.set_cons_zero, Nat.reduceAdd]
    refine Go.Proofs.Ytoklbeogmcdgaaa.Tms.chainP_skip rfl ?_
    simp only [Act.put, List.getElem?_toArray, List.getElem?_cons_succ, List.getElem?_cons_zero, Option.bind_some, List.setIfInBounds_toArray, List.set_cons_succ, List.set_cons_zero, Nat.reduceAdd]
    refine chainP_soft (a1 := ?ma21) (by kernel_rfl) (by kernel_rfl) ?mh21 ?mr21
    case mh21 =>
      intro u hu E hE
      have hu' := hu.eq
      subst hu'
      go_wp2
      rfl
    refine chainP_nil (rest_end (by decide) ?_)
    go_wp2
    go_ret2
    rw [HAA.out]
    exact ⟨rfl, HDB.out⟩
  have h2' : inR S x := Classical.byContradiction h2
  have hx0 := h2'
  unfold inR at hx0
  obtain ⟨x, rfl⟩ : ∃ n : Nat, x = n := ⟨x.toNat, by omega⟩
  have HD2 := Lib.hid (dec_yes (x := x) (n := S.cells.length) (by omega))
  obtain ⟨fv, hcv, hgv⟩ := HI.out.stoIn.fol (x := v) (by omega)
  have hrl := hcv.end_.1
  have HGV := Lib.hid hgv
  by_cases hk : (cellF S v).k = 1
  · have haa := HGD.out ⟨h1', h2', by rw [Int.toNat_natCast]; exact hk⟩
    rw [Int.toNat_natCast, Int.toNat_natCast] at haa
    have HAA := Lib.hid haa
    have b1 : ((cellF S v).k != 1) = false := by simp [hk]
    clear haa h1 h2 h1' h2' HBD HGD hgv
    go_enter Try.func52, Try.ntmps52
    go_upto_region 1 with fail
    refine wp_region_rest (by kernel_rfl) ?_
    generalize w.drew = W0 at *
    have hs1 := hs0
    obtain ⟨cv, bv, A, hrow⟩ := hs1
    obtain ⟨g, cap, av, rfl, q1, q2, c0, -⟩ := hrow.cell (fol S v) hrl
    obtain ⟨z0, z1, z2⟩ := row3 hrow.row
    rw [(List.getElem?_eq_some_iff.1 HGV.out).2] at c0
    obtain ⟨K, hK⟩ : ∃ K, K = (cellF S v).k := ⟨_, rfl⟩
    obtain ⟨R, hR⟩ : ∃ R, R = fol S v := ⟨_, rfl⟩
    rw [← hK] at c0 b1
    rw [← hR] at c0 hrl hcv
    have HT1 := Lib.hid (ref_there W0 hs0 v)
    have HT2 := Lib.hid (ref_there W0 hs0 x)
    have HF := Lib.hid (ref_Follow W0 hs0 HI.out.kindOk fv v R hcv)
    have hr0 : (0 : Int) ≤ (R : Int) := by omega
    have hr1 : (R : Int) < (S.cells.length : Int) := by omega
    have HROW := Lib.hid hrow
    have HRR := Lib.hid hR
    clear hrow hK hR hcv hk hs0
    refine rest_lineL 0 2 [_, _] rfl (by kernel_rfl) (by decide) (by decide) (by kernel_rfl) ?_
    go_wp2
    refine then_rest ?_
    refine rest_chainP (SameW W0) 2 27 (.soft 2 (.soft 3 (.soft 4 (.one 5 (.soft 6 (.soft 7 (.soft 8 (.soft 9 (.soft 10 (.one 11 (.soft 12 (.soft 13 (.soft 14 (.soft 15 (.soft 16 (.soft 17 (.soft 18 (.soft 19 (.soft 20 (.one 21 (.soft 22 (.soft 23 (.soft 24 (.soft 25 (.soft 26 .nil))))))))))))))))))))))))) (.soft _ (.soft _ (.soft _ (.one _ (.soft _ (.soft _ (.soft _ (.soft _ (.soft _ (.one _ (.soft _ (.soft _ (.soft _ (.soft _ (.soft _ (.soft _ (.soft _ (.soft _ (.soft _ (.one _ (.soft _ (.soft _ (.soft _ (.soft _ (.soft _ .nil))))))))))))))))))))))))) ⟨rfl, ⟨rfl, ⟨rfl, ⟨rfl, ⟨rfl, ⟨rfl, ⟨rfl, ⟨rfl, ⟨rfl, ⟨rfl, ⟨rfl, ⟨rfl, ⟨rfl, ⟨rfl, ⟨rfl, ⟨rfl, ⟨rfl, ⟨rfl, ⟨rfl, ⟨rfl, ⟨rfl, ⟨rfl, ⟨rfl, ⟨rfl, ⟨rfl, trivial⟩⟩⟩⟩⟩⟩⟩⟩⟩⟩⟩⟩⟩⟩⟩⟩⟩⟩⟩⟩⟩⟩⟩⟩⟩ (by kernel_rfl) (by kernel_rfl) (by kernel_rfl) (by kernel_rfl) (.inl rfl) (SameW.me W0) ?_
    refine chainP_soft (a1 := ?ma22) (by kernel_rfl) (by kernel_rfl) ?mh22 ?mr22
    case mh22 =>
      intro u hu E hE
      have hu' := hu.eq
      subst hu'
      go_wp2
      rfl
    refine chainP_soft (a1 := ?ma23) (by kernel_rfl) (by kernel_rfl) ?mh23 ?mr23
    case mh23 =>
      intro u hu E hE
      have hu' := hu.eq
      subst hu'
      go_wp2
      rfl
    refine chainP_soft (a1 := ?ma24) (by kernel_rfl) (by kernel_rfl) ?mh24 ?mr24
    case mh24 =>
      intro u hu E hE
      have hu' := hu.eq
      subst hu'
      go_wp2
      rfl
    refine chainP_one ?_
    intro E hE
    go_wp2_with fail
    refine HT1.out.mono ?_
    rintro e6 w6 ⟨rfl, rfl⟩
    rw [HD1.out]
    go_wp2
    refine ⟨SameW.me _, ?_⟩
    refine chainP_soft (a1 := ?ma25) (by kernel_rfl) (by kernel_rfl) ?mh25 ?mr25
    case mh25 =>
      intro u hu E hE
      have hu' := hu.eq
      subst hu'
      go_wp2
      rfl
    refine chainP_soft (a1 := ?ma26) (by kernel_rfl) (by kernel_rfl) ?mh26 ?mr26
    case mh26 =>
      intro u hu E hE
      have hu' := hu.eq
      subst hu'
      go_wp2
      rfl
    refine chainP_soft (a1 := ?ma27) (by kernel_rfl) (by kernel_rfl) ?mh27 ?mr27
    case mh27 =>
      intro u hu E hE
      have hu' := hu.eq
      subst hu'
      go_wp2
      rfl
    refine chainP_soft (a1 := ?ma28) (by kernel_rfl) (by kernel_rfl) ?mh28 ?mr28
    case mh28 =>
      intro u hu E hE
      have hu' := hu.eq
      subst hu'
      go_wp2
      rfl
    refine chainP_soft (a1 := ?ma29) (by kernel_rfl) (by kernel_rfl) ?mh29 ?mr29
    case mh29 =>
      intro u hu E hE
      have hu' := hu.eq
      subst hu'
      go_wp2
      rfl
    refine chainP_one ?_
    intro E hE
    go_wp2_with fail
    refine HT2.out.mono ?_
    rintro e6 w6 ⟨rfl, rfl⟩
    rw [HD2.out]
    go_wp2
    refine ⟨SameW.me _, ?_⟩
    refine chainP_soft (a1 := ?ma30) (by kernel_rfl) (by kernel_rfl) ?mh30 ?mr30
    case mh30 =>
      intro u hu E hE
      have hu' := hu.eq
      subst hu'
      go_wp2
      rfl
    refine chainP_soft (a1 := ?ma31) (by kernel_rfl) (by kernel_rfl) ?mh31 ?mr31
    case mh31 =>
      intro u hu E hE
      have hu' := hu.eq
      subst hu'
      go_wp2
      rfl
    refine chainP_soft (a1 := ?ma32) (by kernel_rfl) (by kernel_rfl) ?mh32 ?mr32
    case mh32 =>
      intro u hu E hE
      have hu' := hu.eq
      subst hu'
      go_wp2
      rfl
    refine chainP_soft (a1 := ?ma33) (by kernel_rfl) (by kernel_rfl) ?mh33 ?mr33
    case mh33 =>
      intro u hu E hE
      have hu' := hu.eq
      subst hu'
      go_wp2
      rfl
    refine Go.Proofs.Ytoklbeogmcdgaaa.Tms.chainP_nckg _ _ rfl rfl rfl ?_
    simp only [Act.put, List.getElem?_toArray, List.getElem?_cons_succ, List.getElem?_cons_zero, Option.bind_some, List.setIfInBounds_toArray, List.set_cons_succ, List.set_cons_zero, Nat.reduceAdd]
    refine chainP_soft (a1 := ?ma34) (by kernel_rfl) (by kernel_rfl) ?mh34 ?mr34
    case mh34 =>
      intro u hu E hE
      have hu' := hu.eq
      subst hu'
      go_wp2
      rfl
    refine chainP_soft (a1 := ?ma35) (by kernel_rfl) (by kernel_rfl) ?mh35 ?mr35
    case mh35 =>
      intro u hu E hE
      have hu' := hu.eq
      subst hu'
      go_wp2
      rfl
    refine chainP_soft (a1 := ?ma36) (by kernel_rfl) (by kernel_rfl) ?mh36 ?mr36
    case mh36 =>
      intro u hu E hE
      have hu' := hu.eq
      subst hu'
      go_wp2
      rfl
    refine chainP_soft (a1 := ?ma37) (by kernel_rfl) (by kernel_rfl) ?mh37 ?mr37
    case mh37 =>
      intro u hu E hE
      have hu' := hu.eq
      subst hu'
      go_wp2
      rfl
    refine chainP_one ?_
    intro E hE
    go_wp2_with fail
    refine HF.out.mono ?_
    rintro e6 w6 ⟨rfl, rfl⟩
    go_wp2
    refine ⟨SameW.me _, ?_⟩
    refine chainP_soft (a1 := ?ma38) (by kernel_rfl) (by kernel_rfl) ?mh38 ?mr38
    case mh38 =>
      intro u hu E hE
      have hu' := hu.eq
      subst hu'
      go_wp2
      rfl
    refine chainP_soft (a1 := ?ma39) (by kernel_rfl) (by kernel_rfl) ?mh39 ?mr39
    case mh39 =>
      intro u hu E hE
      have hu' := hu.eq
      subst hu'
      go_wp2
      rfl
    refine chainP_soft (a1 := ?ma40) (by kernel_rfl) (by kernel_rfl) ?mh40 ?mr40
    case mh40 =>
      intro u hu E hE
      have hu' := hu.eq
      subst hu'
      go_wp2
      rfl
    refine chainP_soft (a1 := ?ma41) (by kernel_rfl) (by kernel_rfl) ?mh41 ?mr41
    case mh41 =>
      intro u hu E hE
      have hu' := hu.eq
      subst hu'
      go_wp2
      rfl
    refine chainP_soft (a1 := ?ma42) (by kernel_rfl) (by kernel_rfl) ?mh42 ?mr42
    case mh42 =>
      intro u hu E hE
      have hu' := hu.eq
      subst hu'
      go_wp2
      rfl
    refine chainP_nil (rest_end (by decide) ?_)
    clear c0 z0 z1 z2 HT1 HT2
    have hbn := below_new W0 (wkO q 0 false false)
    have hrn := heap_alloc_new W0 (wkO q 0 false false)
    have hs2 : RefAt (W0.alloc (wkO q 0 false false)) E q S := ⟨_, _, _, HROW.out.below hbn⟩
    have hnw : ¬ E W0.heap.size := fun e => by have := HROW.out.dl _ e; omega
    have HQ := Lib.hid (ref_WHas (sf := false) HI.out hnw 20000 R x _ hs2 (by omega) (Nat.le_refl _) (by simpa using hrn))
    have hfl := hs2
    obtain ⟨fv2, hcv2, -⟩ := HI.out.stoIn.fol (x := v) (by omega)
    rw [← HRR.out] at hcv2
    have HF2 := Lib.hid (ref_Follow _ hs2 HI.out.kindOk fv2 v R hcv2)
    have HBN := Lib.hid (HDB.out.trans (hbn.mono HDB.out.size))
    clear hbn hrn hs2 hnw hfl hcv2
    go_wp2_with fail
    refine HF2.out.mono ?_
    rintro e5 w5 ⟨rfl, rfl⟩
    go_wp2_with fail
    refine HQ.out.mono ?_
    rintro e6 w6 ⟨n6, ov6, rfl, hr6, hk6, h6n, h6s⟩
    obtain ⟨rr, hrr⟩ : ∃ rr, rr = hasP S R 20000 [x] := ⟨_, rfl⟩
    have hhv : hasV S v x = rr.1 := by rw [hrr, HRR.out]; rfl
    rw [← hrr] at h6n h6s ⊢
    have HHV := Lib.hid hhv
    obtain ⟨y0, y1, y2, y3⟩ := row4r hr6
    have hzz := HDB.out.size
    have HB6 := Lib.hid (show Below w.heap.size w w6 from HBN.out.trans ⟨hk6.os, hk6.tape, hk6.output, hk6.size, fun b hlt => hk6.block b (by simp; omega) (by omega)⟩)
    clear hrr hhv hr6 hk6 HQ HF2 y0 y1 y2
    obtain ⟨o, kk⟩ := rr
    dsimp only at h6n h6s ⊢
    cases o with
    | none =>
      obtain rfl := h6n rfl
      go_wp2
      go_ret2
      rw [HAA.out, HHV.out]
      exact ⟨rfl, HB6.out⟩
    | some bb =>
      obtain ⟨rfl, -⟩ := h6s (by simp)
      go_wp2
      go_ret2
      rw [HAA.out, HHV.out]
      exact ⟨by cases bb <;> rfl, HB6.out⟩
  · have HAA := Lib.hid (HBD.out fun h => hk (by have := h.2.2; rwa [Int.toNat_natCast] at this))
    have b1 : ((cellF S v).k != 1) = true := by simpa using hk
    clear h1 h2 h1' h2' HBD HGD hgv
    go_enter Try.func52, Try.ntmps52
    go_upto_region 1 with fail
    refine wp_region_rest (by kernel_rfl) ?_
    generalize w.drew = W0 at *
    have hs1 := hs0
    obtain ⟨cv, bv, A, hrow⟩ := hs1
    obtain ⟨g, cap, av, rfl, q1, q2, c0, -⟩ := hrow.cell (fol S v) hrl
    obtain ⟨z0, z1, z2⟩ := row3 hrow.row
    rw [(List.getElem?_eq_some_iff.1 HGV.out).2] at c0
    obtain ⟨K, hK⟩ : ∃ K, K = (cellF S v).k := ⟨_, rfl⟩
    obtain ⟨R, hR⟩ : ∃ R, R = fol S v := ⟨_, rfl⟩
    rw [← hK] at c0 b1
    rw [← hR] at c0 hrl hcv
    have HT1 := Lib.hid (ref_there W0 hs0 v)
    have HT2 := Lib.hid (ref_there W0 hs0 x)
    have HF := Lib.hid (ref_Follow W0 hs0 HI.out.kindOk fv v R hcv)
    have hr0 : (0 : Int) ≤ (R : Int) := by omega
    have hr1 : (R : Int) < (S.cells.length : Int) := by omega
    clear hrow hK hR hcv hk hs0
    refine rest_lineL 0 2 [_, _] rfl (by kernel_rfl) (by decide) (by decide) (by kernel_rfl) ?_
    go_wp2
    refine then_rest ?_
    refine rest_chainP (SameW W0) 2 27 (.soft 2 (.soft 3 (.soft 4 (.one 5 (.soft 6 (.soft 7 (.soft 8 (.soft 9 (.soft 10 (.one 11 (.soft 12 (.soft 13 (.soft 14 (.soft 15 (.soft 16 (.soft 17 (.soft 18 (.soft 19 (.soft 20 (.one 21 (.soft 22 (.soft 23 (.soft 24 (.soft 25 (.soft 26 .nil))))))))))))))))))))))))) (.soft _ (.soft _ (.soft _ (.one _ (.soft _ (.soft _ (.soft _ (.soft _ (.soft _ (.one _ (.soft _ (.soft _ (.soft _ (.soft _ (.soft _ (.soft _ (.soft _ (.soft _ (.soft _ (.one _ (.soft _ (.soft _ (.soft _ (.soft _ (.soft _ .nil))))))))))))))))))))))))) ⟨rfl, ⟨rfl, ⟨rfl, ⟨rfl, ⟨rfl, ⟨rfl, ⟨rfl, ⟨rfl, ⟨rfl, ⟨rfl, ⟨rfl, ⟨rfl, ⟨rfl, ⟨rfl, ⟨rfl, ⟨rfl, ⟨rfl, ⟨rfl, ⟨rfl, ⟨rfl, ⟨rfl, ⟨rfl, ⟨rfl, ⟨rfl, ⟨rfl, trivial⟩⟩⟩⟩⟩⟩⟩⟩⟩⟩⟩⟩⟩⟩⟩⟩⟩⟩⟩⟩⟩⟩⟩⟩⟩ (by kernel_rfl) (by kernel_rfl) (by kernel_rfl) (by kernel_rfl) (.inl rfl) (SameW.me W0) ?_
    refine chainP_soft (a1 := ?ma43) (by kernel_rfl) (by kernel_rfl) ?mh43 ?mr43
    case mh43 =>
      intro u hu E hE
      have hu' := hu.eq
      subst hu'
      go_wp2
      rfl
    refine chainP_soft (a1 := ?ma44) (by kernel_rfl) (by kernel_rfl) ?mh44 ?mr44
    case mh44 =>
      intro u hu E hE
      have hu' := hu.eq
      subst hu'
      go_wp2
      rfl
    refine chainP_soft (a1 := ?ma45) (by kernel_rfl) (by kernel_rfl) ?mh45 ?mr45
    case mh45 =>
      intro u hu E hE
      have hu' := hu.eq
      subst hu'
      go_wp2
      rfl
    refine chainP_one ?_
    intro E hE
    go_wp2_with fail
    refine HT1.out.mono ?_
    rintro e6 w6 ⟨rfl, rfl⟩
    rw [HD1.out]
    go_wp2
    refine ⟨SameW.me _, ?_⟩
    refine chainP_soft (a1 := ?ma46) (by kernel_rfl) (by kernel_rfl) ?mh46 ?mr46
    case mh46 =>
      intro u hu E hE
      have hu' := hu.eq
      subst hu'
      go_wp2
      rfl
    refine chainP_soft (a1 := ?ma47) (by kernel_rfl) (by kernel_rfl) ?mh47 ?mr47
    case mh47 =>
      intro u hu E hE
      have hu' := hu.eq
      subst hu'
      go_wp2
      rfl
    refine chainP_soft (a1 := ?ma48) (by kernel_rfl) (by kernel_rfl) ?mh48 ?mr48
    case mh48 =>
      intro u hu E hE
      have hu' := hu.eq
      subst hu'
      go_wp2
      rfl
    refine chainP_soft (a1 := ?ma49) (by kernel_rfl) (by kernel_rfl) ?mh49 ?mr49
    case mh49 =>
      intro u hu E hE
      have hu' := hu.eq
      subst hu'
      go_wp2
      rfl
    refine chainP_soft (a1 := ?ma50) (by kernel_rfl) (by kernel_rfl) ?mh50 ?mr50
    case mh50 =>
      intro u hu E hE
      have hu' := hu.eq
      subst hu'
      go_wp2
      rfl
    refine chainP_one ?_
    intro E hE
    go_wp2_with fail
    refine HT2.out.mono ?_
    rintro e6 w6 ⟨rfl, rfl⟩
    rw [HD2.out]
    go_wp2
    refine ⟨SameW.me _, ?_⟩
    refine chainP_soft (a1 := ?ma51) (by kernel_rfl) (by kernel_rfl) ?mh51 ?mr51
    case mh51 =>
      intro u hu E hE
      have hu' := hu.eq
      subst hu'
      go_wp2
      rfl
    refine chainP_soft (a1 := ?ma52) (by kernel_rfl) (by kernel_rfl) ?mh52 ?mr52
    case mh52 =>
      intro u hu E hE
      have hu' := hu.eq
      subst hu'
      go_wp2
      rfl
    refine chainP_soft (a1 := ?ma53) (by kernel_rfl) (by kernel_rfl) ?mh53 ?mr53
    case mh53 =>
      intro u hu E hE
      have hu' := hu.eq
      subst hu'
      go_wp2
      rfl
    refine chainP_soft (a1 := ?ma54) (by kernel_rfl) (by kernel_rfl) ?mh54 ?mr54
    case mh54 =>
      intro u hu E hE
      have hu' := hu.eq
      subst hu'
      go_wp2
      rfl
    refine Go.Proofs.Ytoklbeogmcdgaaa.Tms.chainP_nckg _ _ rfl rfl rfl ?_
    simp only [Act.put, List.getElem?_toArray, List.getElem?_cons_succ, List.getElem?_cons_zero, Option.bind_some, List.setIfInBounds_toArray, List.set_cons_succ, List.set_cons_zero, Nat.reduceAdd]
    refine chainP_soft (a1 := ?ma55) (by kernel_rfl) (by kernel_rfl) ?mh55 ?mr55
    case mh55 =>
      intro u hu E hE
      have hu' := hu.eq
      subst hu'
      go_wp2
      rfl
    refine chainP_soft (a1 := ?ma56) (by kernel_rfl) (by kernel_rfl) ?mh56 ?mr56
    case mh56 =>
      intro u hu E hE
      have hu' := hu.eq
      subst hu'
      go_wp2
      rfl
    refine chainP_soft (a1 := ?ma57) (by kernel_rfl) (by kernel_rfl) ?mh57 ?mr57
    case mh57 =>
      intro u hu E hE
      have hu' := hu.eq
      subst hu'
      go_wp2
      rfl
    refine chainP_soft (a1 := ?ma58) (by kernel_rfl) (by kernel_rfl) ?mh58 ?mr58
    case mh58 =>
      intro u hu E hE
      have hu' := hu.eq
      subst hu'
      go_wp2
      rfl
    refine chainP_one ?_
    intro E hE
    go_wp2_with fail
    refine HF.out.mono ?_
    rintro e6 w6 ⟨rfl, rfl⟩
    go_wp2
    refine ⟨SameW.me _, ?_⟩
    refine chainP_soft (a1 := ?ma59) (by kernel_rfl) (by kernel_rfl) ?mh59 ?mr59
    case mh59 =>
      intro u hu E hE
      have hu' := hu.eq
      subst hu'
      go_wp2
      rfl
    refine chainP_soft (a1 := ?ma60) (by kernel_rfl) (by kernel_rfl) ?mh60 ?mr60
    case mh60 =>
      intro u hu E hE
      have hu' := hu.eq
      subst hu'
      go_wp2
      rfl
    refine chainP_soft (a1 := ?ma61) (by kernel_rfl) (by kernel_rfl) ?mh61 ?mr61
    case mh61 =>
      intro u hu E hE
      have hu' := hu.eq
      subst hu'
      go_wp2
      rfl
    refine chainP_soft (a1 := ?ma62) (by kernel_rfl) (by kernel_rfl) ?mh62 ?mr62
    case mh62 =>
      intro u hu E hE
      have hu' := hu.eq
      subst hu'
      go_wp2
      rfl
    refine chainP_soft (a1 := ?ma63) (by kernel_rfl) (by kernel_rfl) ?mh63 ?mr63
    case mh63 =>
      intro u hu E hE
      have hu' := hu.eq
      subst hu'
      go_wp2
      rfl
    refine chainP_nil (rest_end (by decide) ?_)
    go_wp2
    go_ret2
    rw [HAA.out]
    exact ⟨rfl, HDB.out⟩
end Go.Proofs.Ytoklbeogmcdgaaa.Tms

