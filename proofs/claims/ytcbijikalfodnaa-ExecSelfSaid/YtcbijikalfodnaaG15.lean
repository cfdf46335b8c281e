/-
  Layer texts, glued and made small.
-/
import Derived.Test.YtcbijikalfodnaaG14
set_option linter.unusedVariables false
set_option linter.unusedSimpArgs false
set_option maxRecDepth 100000
set_option maxHeartbeats 16000000
namespace Go.Proofs.Ytcbijikalfodnaa.Tms
open Go Go.RowKit Go.Proofs.Ytcbijikalfodnaa.Reg Go.Proofs.Ytcbijikalfodnaa.Rws Go.Proofs.Ytcbijikalfodnaa.Maps
open Go.Proofs.Ytcbijikalfodnaa.Cod (Ins Cod sk check slotsN InsSl InsAt codVal go_check)
theorem slots_in : ∀ (l : List Ins) (m s : Nat), slotsN l m = some s → m ≤ s ∧ ∀ i ∈ l, i.op = 2 ∨ i.op = 3 → 0 ≤ i.a ∧ i.a < s
 | [], m, s, h => by
   simp only [slotsN, Option.some.injEq] at h; exact ⟨by omega, fun i hi => by cases hi⟩
 | i :: l, m, s, h => by
   unfold slotsN at h
   by_cases h2 : i.op = 2
   ·rw [if_pos h2] at h
    by_cases ha : i.a = m
    ·rw [if_pos ha] at h
     obtain ⟨g1, g2⟩ := slots_in l (m + 1) s h; refine ⟨by omega, fun x hx ho => ?_⟩; rcases List.mem_cons.1 hx with rfl | hx
     ·omega
     ·exact g2 x hx ho
    ·rw [if_neg ha] at h; cases h
   ·rw [if_neg h2] at h
    by_cases h3 : i.op = 3 ∧ (i.a < 0 ∨ (m : Int) ≤ i.a)
    ·rw [if_pos h3] at h; cases h
    ·rw [if_neg h3] at h
     obtain ⟨g1, g2⟩ := slots_in l m s h; refine ⟨g1, fun x hx ho => ?_⟩; rcases List.mem_cons.1 hx with rfl | hx
     ·rcases ho with ho | ho
      ·exact absurd ho h2
      ·have : ¬ (x.a < 0 ∨ (m : Int) ≤ x.a) := fun e => h3 ⟨ho, e⟩
       omega
     ·exact g2 x hx ho
structure MtR where
 ok : Bool
 err : Int
 S : Sto
 sl : List Int
noncomputable def matX (f : Nat → Sto → List Int → PtR) : List Int → Nat → Sto → List Int → Nat → MtR
 | [], _, S, sl, _ => ⟨true, 0, S, sl⟩
 | x :: xs, a, S, sl, k =>
   if (f a S sl).err ≠ 0 then ⟨false, (f a S sl).err, (f a S sl).S, (f a S sl).sl⟩ else
   if (uniK false k (f a S sl).S [((f a S sl).cell.toNat, x.toNat)]).1 = some true then
    matX f xs (f a S sl).at_ (uniK false k (f a S sl).S [((f a S sl).cell.toNat, x.toNat)]).2.1 (f a S sl).sl (uniK false k (f a S sl).S [((f a S sl).cell.toNat, x.toNat)]).2.2
   else ⟨false, hasE (uniK false k (f a S sl).S [((f a S sl).cell.toNat, x.toNat)]).1, (uniK false k (f a S sl).S [((f a S sl).cell.toNat, x.toNat)]).2.1, (f a S sl).sl⟩
structure MtAt (w0 : World) (p rb qb sn : Nat) (lv : Value) (L : List Ins) (args : List Int) (R : MtR) (D : Nat → Prop) (w : World) (i a j k : Nat) (S : Sto) (sl : List Int) (D' : Nat → Prop) (wr : World) : Prop where
 ex : ExAt w0 p rb qb S D' lv L a sl (20000 - k) wr
 st : EStep rb qb D w D' wr
 inv : Inv S
 slots : SlOk S sl
 len : sl.length = sn
 inn : ∀ x ∈ args, 0 ≤ x ∧ x < S.cells.length
 pats : sk (L.drop a) (args.length - i) = some j
 jn : j ≤ L.length
 kle : k ≤ 20000
 eq : R = matX (patX L L.length) (args.drop i) a S sl k
def MtRel (w0 : World) (p rb qb sn : Nat) (lv : Value) (L : List Ins) (args : List Int) (R : MtR) (D : Nat → Prop) (w : World) (vi : Value) (wr : World) : Prop := ∃ i a j k S sl D', vi = .int .i64 (i : Nat) ∧ i ≤ args.length ∧ MtAt w0 p rb qb sn lv L args R D w i a j k S sl D' wr
def MtPost (w0 : World) (p : Nat) (R : MtR) (mark : Nat) (D : Nat → Prop) (w : World) (e : Ending) (w' : World) : Prop :=
 ∃ v D', e = .returned (.tuple #[v, .bool R.ok, .int .i64 R.err]) ∧ Law8 w0 p (if R.ok = true then R.S else undoS R.S mark) D' w' ∧ Step D w D' w' ∧ IntSl w' (Free D' w') v (if R.ok = true then R.sl else [])
theorem EStep.step {rb qb : Nat} {D D' : Nat → Prop} {w w1 w' : World} (h : EStep rb qb D w1 D' w') (hb : Below w.heap.size w w1) (hr : w.heap.size ≤ rb) (hq : w.heap.size ≤ qb) : Step D w D' w' :=
 ⟨Nat.le_trans hb.size h.size, fun b hb' => by
   have hs := hb.size; have ho : EOut rb qb D w1 b := ⟨hb'.1, fun e => by have := hb'.2; omega, fun e => by have := hb'.2; omega, Nat.lt_of_lt_of_le hb'.2 hs⟩; obtain ⟨g1, g2⟩ := h.blk b ho; exact ⟨⟨g1.1, g1.2.2.2⟩, g2.trans (hb.block b hb'.2)⟩⟩
theorem matX_cons {f : Nat → Sto → List Int → PtR} {x : Int} {xs : List Int} {a : Nat} {S : Sto} {sl : List Int} {k : Nat} {r : PtR} (hr : f a S sl = r) : matX f (x :: xs) a S sl k = if r.err ≠ 0 then ⟨false, r.err, r.S, r.sl⟩ else
 if (uniK false k r.S [(r.cell.toNat, x.toNat)]).1 = some true then matX f xs r.at_ (uniK false k r.S [(r.cell.toNat, x.toNat)]).2.1 r.sl (uniK false k r.S [(r.cell.toNat, x.toNat)]).2.2
 else ⟨false, hasE (uniK false k r.S [(r.cell.toNat, x.toNat)]).1, (uniK false k r.S [(r.cell.toNat, x.toNat)]).2.1, r.sl⟩ := by
 subst hr; rfl
theorem hasB_notE {r : Option Bool} (h : hasB r = false) : r ≠ some true := fun e => by rw [e] at h; simp [hasB] at h
theorem hasB_yesE {r : Option Bool} (h : hasB r = true) : r = some true := by simpa [hasB] using h
theorem Law8.law_low {w0 w : World} {p : Nat} {S : Sto} {D : Nat → Prop} (h : Law8 w0 p S D w) : w0.heap.size ≤ w.heap.size := h.bel.size
theorem ex_slots {w0 w : World} {p rb qb at_ k : Nat} {S : Sto} {D : Nat → Prop} {lv : Value} {L : List Ins} {sl : List Int} (h : ExAt w0 p rb qb S D lv L at_ sl k w) (hl : sl.length ≤ 1000000) : IntSl w (Free D w) (.slice (some ⟨qb, 0, none⟩) sl.length sl.length) sl :=
 ⟨_, _, rfl, Nat.le_refl _, by unfold maxLen; omega, fun i hi => ⟨qb, 0, rfl, ⟨h.qF.1, h.qlt⟩, h.qlt, by rw [Nat.zero_add]; exact h.slots.got i hi⟩⟩
theorem ex_Match {w0 w : World} {p : Nat} {S : Sto} {D : Nat → Prop} (h : Law8 w0 p S D w) (hI : Inv S) (c : Cod) (lv : Value) (hins : InsSl w lv c.l) (hlv : ∀ b, slBlk lv = some b → Free D w b) (hck : check c = 0) (args : List Int) (av : Value) (hav : IntSl w (Free D w) av args) (hal : (args.length : Int) = c.args) (har : areB S args false = true) {s : Nat} (hs : slotsN c.l 0 = some s) (hs2 : (s : Int) = c.slots) :
 Calls Try.prog 10 #[.pointer (some ⟨p, 0, none⟩), codVal c lv, av] w (MtPost w0 p (matX (patX c.l c.l.length) args 0 S (List.replicate s (-1)) 20000) S.bonds.length D w) := by
 obtain ⟨a, j, s', hco⟩ := check_facts hck; obtain ⟨R, hR⟩ : ∃ R, R = matX (patX c.l c.l.length) args 0 S (List.replicate s (-1)) 20000 := ⟨_, rfl⟩; rw [← hR]; have hsl := (slots_in c.l 0 s hs).2; have hok : ∀ i ∈ c.l, i.ok = true := fun i hi => List.all_eq_true.1 hco.ok i hi
 have hss : s ≤ 20000 := by have := slotsN_le _ _ _ hs; have := hco.len; omega
 obtain ⟨la, lc, rfl, hic⟩ := id hins; obtain ⟨qa, ca, rfl⟩ := hav.form; have hb1 := below_new w (.cells #[.string c.name, .int .i64 c.args, .int .i64 c.slots, .int .i64 c.body, .slice la c.l.length lc] 30 (0, 0)); have hr1 := heap_alloc_new w (.cells #[.string c.name, .int .i64 c.args, .int .i64 c.slots, .int .i64 c.body, .slice la c.l.length lc] 30 (0, 0)); obtain ⟨h1, s1, f1⟩ := h.below hb1; have hi1 : InsSl (w.alloc (.cells #[.string c.name, .int .i64 c.args, .int .i64 c.slots, .int .i64 c.body, .slice la c.l.length lc] 30 (0, 0))) (.slice la c.l.length lc) c.l := insSl_keepX hins fun b e => hb1.block b (hlv b e).2
 have ha1 := hav.step s1; have H1 := Lib.hid h1; have S1 := Lib.hid s1; have HI1 := Lib.hid hi1; have HA1 := Lib.hid ha1; have HLV := Lib.hid (fun b e => (s1.blk b (hlv b e)).1 : ∀ b, slBlk (.slice la c.l.length lc) = some b → Free D (w.alloc (.cells #[.string c.name, .int .i64 c.args, .int .i64 c.slots, .int .i64 c.body, .slice la c.l.length lc] 30 (0, 0))) b); have HCO := Lib.hid hco; have HP := Lib.hid (And.intro hok (And.intro hsl (And.intro hss (And.intro hs2 hal)))); have HR := Lib.hid hR; have HAR := Lib.hid har; have HCK := Lib.hid hck; obtain ⟨k0, k1, k2, k3, k4⟩ := row5 hr1; have hsm := hI.small; have hal5 : args.length ≤ 1000000 := by have := hco.args.2; omega
 clear hb1 hr1 h1 s1 f1 hi1 ha1 hco hok hsl hss hs2 hR har hck hic hins hlv hav h hs
 go_enter Try.func10, Try.ntmps10
 go_upto_region 1 with fail
 obtain ⟨w1, hw1⟩ : ∃ w1, w1 = w.alloc (.cells #[.string c.name, .int .i64 c.args, .int .i64 c.slots, .int .i64 c.body, .slice la c.l.length lc] 30 (0, 0)) := ⟨_, rfl⟩; rw [← hw1] at H1 S1 HI1 HA1 HLV k0 k1 k2 k3 k4 ⊢; have HW2 := Lib.hid (show w.heap.size < w1.heap.size by rw [hw1]; simp); clear hw1; generalize hgw : w.heap.size = g at *; have b1 : (check c != 0) = false := by rw [HCK.out]; rfl
 have b2 : ((args.length : Int) != c.args) = false := by simp; exact hal
 have b3 : (!areB S args false) = false := by rw [HAR.out]; rfl
 have HAL := Lib.hid hal; clear hal
 go_wp2_with (first
  | (go_at_call 12
     refine (go_check c _ w1 HI1.out).mono ?_; rintro e2 w2 ⟨rfl, hb2⟩; obtain ⟨h2, s2, f2⟩ := H1.out.below hb2; have H2 := Lib.hid h2; have S2 := Lib.hid (S1.out.trans s2); have HA2 := Lib.hid (HA1.out.step s2); have HI2 := Lib.hid (insSl_keepX HI1.out fun b e => (s2.blk b (HLV.out b e)).2 : InsSl w2 (.slice la c.l.length lc) c.l); have HLV2 := Lib.hid (fun b e => (s2.blk b (HLV.out b e)).1 : ∀ b, slBlk (.slice la c.l.length lc) = some b → Free D w2 b); have m0 := (hb2.cell (p := ⟨g, 0, none⟩) HW2.out).trans k0; have m1 := (hb2.cell (p := ⟨g, 1, none⟩) HW2.out).trans k1; have m2 := (hb2.cell (p := ⟨g, 2, none⟩) HW2.out).trans k2; have m3 := (hb2.cell (p := ⟨g, 3, none⟩) HW2.out).trans k3; have m4 := (hb2.cell (p := ⟨g, 4, none⟩) HW2.out).trans k4; clear h2 s2 f2 hb2 k0 k1 k2 k3 k4 H1 S1 HA1 HI1 HLV)
  | (go_at_call 26
     refine (ex_are w2 H2.out.sto (by omega) args _ _ HA2.out hal5 false).mono ?_; rintro e3 w3 ⟨rfl, rfl⟩; clear b1 b2)
  | (go_at_call 11
     refine (sto_Mark w2 H2.out.sto).mono ?_; rintro e4 w4 ⟨rfl, rfl⟩)
  | fail)
 have hs3 := HP.out.2.2.2.1; refine (ex_start p c _ w2 s hs3.symm (by have := HP.out.2.2.1; omega) ⟨_, _, _, rfl⟩).mono ?_; rintro e3 w3 ⟨rb, qb, rfl, hrow, hfill, hb3, hrb, hqb, hne⟩; obtain ⟨h3, s3, f3⟩ := H2.out.below hb3; have hlow := H2.out.law_low
 have hex : ExAt w0 p rb qb S D (.slice la c.l.length lc) c.l 0 (List.replicate s (-1)) (20000 - 20000) w3 := by
  have hz := hb3.size; refine ⟨h3, by rw [List.length_replicate]; exact hrow, by rw [List.length_replicate]; exact hfill, insSl_keepX HI2.out fun b e => (s3.blk b (HLV2.out b e)).2, ⟨fun e => by have := H2.out.dl rb e; omega, by omega⟩, ⟨fun e => by have := H2.out.dl qb e; omega, by omega, hne⟩, fun b e => ⟨(s3.blk b (HLV2.out b e)).1, fun e2 => ?_, fun e2 => ?_⟩⟩
  ·have := (HLV2.out b e).2; omega
  ·have := (HLV2.out b e).2; omega
 have ha3 : IntSl w3 (EOut rb qb D w3) (.slice qa args.length ca) args := HA2.out.move (fun b hb _ => ⟨hb.1, fun e => by have := hb.2; omega, fun e => by have := hb.2; omega, Nat.lt_of_lt_of_le hb.2 hb3.size⟩) fun b hb _ => hb3.block b hb.2
 have hin : ∀ x ∈ args, 0 ≤ x ∧ x < S.cells.length := fun x hx => by
  have := List.all_eq_true.1 HAR.out x hx
  simpa using this
 have hst : MtRel w0 p rb qb s (.slice la c.l.length lc) c.l args R D w3 (.int .i64 0) w3 :=
  ⟨0, 0, a, 20000, S, _, D, rfl, Nat.zero_le _, hex, EStep.refl _ _ _ _, hI, fun x hx => .inl (List.eq_of_mem_replicate hx), List.length_replicate, hin, by
    have := HCO.out.sk; rw [show c.args.toNat = args.length by have := HAL.out; omega] at this; exact this, by have := HCO.out.all; omega, Nat.le_refl _, HR.out⟩
 have HST := Lib.hid hst; have HA3 := Lib.hid ha3; have S3 := Lib.hid S2.out; have HB3 := Lib.hid (And.intro hb3 (And.intro hrb hqb)); clear hst ha3 hin hex hlow h3 s3 f3 hrow hfill hb3 hrb hqb hne hs3 H2 HA2 HI2 HLV2 S2 m0 m1 m2 m3 m4 b3; go_wp2
 go_loopw [43] (fun vi wr => MtRel w0 p rb qb s (.slice la c.l.length lc) c.l args R D w3 vi wr) (fun vi _ => args.length - (intOf vi).toNat)
 case atStart => exact HST.out
 case round =>
  clear HST; obtain ⟨i, ai, ji, k, Si, sl, D1, rfl, hi, hat⟩ := hrel; have HAT := Lib.hid hat
  by_cases hil : i < args.length
  ·have d1 : decide ((i : Int) < (args.length : Int)) = true := by simp; omega
   have har : IntSl wr (EOut rb qb D1 wr) (.slice qa args.length ca) args := HA3.out.move (fun b hb _ => (hat.st.blk b hb).1) fun b hb _ => (hat.st.blk b hb).2
   obtain ⟨ab, ao, eqa, hx⟩ := har.pick i hil; have hroom := har.room; obtain ⟨j1, j2, e1, e2, e3⟩ := sk_split _ 1 (args.length - i - 1) ji (by rw [show 1 + (args.length - i - 1) = args.length - i by omega]; exact hat.pats); rw [List.drop_drop] at e2; obtain ⟨r, hr⟩ : ∃ r, r = patX c.l c.l.length ai Si sl := ⟨_, rfl⟩; have hjn := hat.jn; have hpt := patX_ok (L := c.l) (sn := s) HP.out.1 HP.out.2.1 c.l.length ai j1 Si sl e1 (by omega) hat.inv hat.slots hat.len; rw [← hr] at hpt; have hcall := ex_pattern (w0 := w0) (p := p) (rb := rb) (qb := qb) (k := 20000 - k) (lv := .slice la c.l.length lc) HCO.out.len (by have := HP.out.2.2.1; omega) HP.out.1 HP.out.2.1 c.l.length ai j1 Si sl D1 wr hat.ex hat.inv hat.slots hat.len e1 (by omega); rw [← hr] at hcall; obtain ⟨x, hxv⟩ : ∃ x, x = args[i] := ⟨_, rfl⟩; rw [← hxv] at hx; have heq : R = matX (patX c.l c.l.length) (x :: args.drop (i + 1)) ai Si sl k := by rw [hat.eq, List.drop_eq_getElem_cons hil, hxv]
   rw [matX_cons hr.symm] at heq; have hxin := hat.inn x (by rw [hxv]; exact List.getElem_mem hil); have hi0 : (0 : Int) ≤ (i : Int) := by omega
   have hi1 : (i : Int) < (args.length : Int) := by omega
   have HCALL := Lib.hid hcall; have HPT := Lib.hid hpt; have HE := Lib.hid (And.intro e1 (And.intro e2 (And.intro e3 hxin))); have HEQ := Lib.hid heq; have hr1 := hroom.1; subst eqa; clear hcall hpt e1 e2 e3 heq hr hxv hat har hxin hroom
   by_cases he : r.err = 0
   ·have d2 : (r.err == 0) = true := by simpa using he
    have heq := HEQ.out; rw [if_neg (fun h => h he)] at heq; have HEQ2 := Lib.hid heq; obtain ⟨ra, rc0, rc1⟩ := HPT.out.done he; obtain ⟨cn, hcn⟩ : ∃ cn : Nat, r.cell = (cn : Int) := ⟨r.cell.toNat, by omega⟩; obtain ⟨xn, hxn⟩ : ∃ xn : Nat, x = (xn : Int) := ⟨x.toNat, by have := HE.out.2.2.2; omega⟩; obtain ⟨rc, re, rat, rS, rsl⟩ := r; dsimp only at HPT HEQ2 ra rc0 rc1 hcn he d2; subst hcn; subst hxn; simp only [Int.toNat_natCast] at HEQ2; have hcl : cn < rS.cells.length := by omega
    have hgl : Si.cells.length ≤ rS.cells.length := HPT.out.go.len; have hxl : xn < rS.cells.length := by have := HE.out.2.2.2; omega
    obtain ⟨U, hU⟩ : ∃ U, U = uniK false k rS [(cn, xn)] := ⟨_, rfl⟩; rw [← hU] at HEQ2; have hext : Ext rS U.2.1 := by rw [hU]; exact uniP_ext false _ _ _ _ HPT.out.go.inv (inl1 hcl hxl)
    have hule : U.2.2 ≤ k := by rw [hU]; exact uniK_le _ _ _ _
    have HU := Lib.hid hU; have HX := Lib.hid (And.intro hext hule); have HRA := Lib.hid (And.intro ra (And.intro he (And.intro hcl hxl))); have hkle := HAT.out.kle; clear heq HEQ hU hext hule he ra rc0 rc1 hcl hxl hgl
    by_cases hb : hasB U.1 = true
    ·have HB := Lib.hid hb
     have heq := HEQ2.out; rw [if_pos (hasB_yesE hb)] at heq; have HEQ3 := Lib.hid heq; clear hb heq
     go_wp2_with (first
      | (go_at_call 28
         refine (HCALL.out).mono ?_; rintro e4 w4 ⟨rfl, D4, h4, s4⟩; have H4 := Lib.hid h4; have S4 := Lib.hid s4; clear h4 s4 hx)
      | (go_at_call 29
         refine (ex_unify H4.out HPT.out.go.inv (by omega) cn xn HRA.out.2.2.1 HRA.out.2.2.2).mono ?_; rw [show 20000 - (20000 - k) = k by omega, ← HU.out, HB.out]; rintro e5 w5 ⟨rfl, D5, h5, s5⟩; have H5 := Lib.hid h5; have S5 := Lib.hid (S4.out.trans s5); clear h5 s5
         skip)
      | (go_at_call 23
         refine (law_Undo H5.out.law HX.out.1.inv _).mono ?_; rintro e6 w6 ⟨rfl, D6, h6, s6⟩; have H6 := Lib.hid h6; have S6 := Lib.hid ((((HAT.out.st.trans S5.out).step HB3.out.1 HB3.out.2.1 HB3.out.2.2)).trans s6); clear h6 s6
         skip)
      | fail)
     have hst := HX.out.1
     have hrel : MtRel w0 p rb qb s (.slice la c.l.length lc) c.l args R D w3 (.int .i64 ((i : Int) + 1)) w5 := by
      refine ⟨i + 1, rat, j2, U.2.2, U.2.1, rsl, D5, by go_num, by omega, H5.out, HAT.out.st.trans S5.out, hst.inv, ?_, HPT.out.len.trans HAT.out.len, ?_, ?_, by have := HE.out.2.2.1; have := HAT.out.jn; omega, Nat.le_trans HX.out.2 hkle, HEQ3.out⟩
      ·intro x hx
       have h0 : x = -1 ∨ (0 ≤ x ∧ x < rS.cells.length) := HPT.out.slots x hx; have := hst.len; omega
      ·intro x hx
       have h0 := HAT.out.inn x hx; have h1 : Si.cells.length ≤ rS.cells.length := HPT.out.go.len; have := hst.len; omega
      ·have h0 : rat = ai + j1 := HRA.out.1
       rw [h0, show args.length - (i + 1) = args.length - i - 1 by omega]; exact HE.out.2.1
     have HREL := Lib.hid hrel; clear hst hrel; go_roundw
     case measure => simp [intOf]; omega
     case rel => exact HREL.out
    ·have hb' : hasB U.1 = false := by simpa using hb
     have HB := Lib.hid hb'; have heq := HEQ2.out; rw [if_neg (hasB_notE hb')] at heq; have HEQ3 := Lib.hid heq; clear hb hb' heq
     go_wp2_with (first
      | (go_at_call 28
         refine (HCALL.out).mono ?_; rintro e4 w4 ⟨rfl, D4, h4, s4⟩; have H4 := Lib.hid h4; have S4 := Lib.hid s4; clear h4 s4 hx)
      | (go_at_call 29
         refine (ex_unify H4.out HPT.out.go.inv (by omega) cn xn HRA.out.2.2.1 HRA.out.2.2.2).mono ?_; rw [show 20000 - (20000 - k) = k by omega, ← HU.out, HB.out]; rintro e5 w5 ⟨rfl, D5, h5, s5⟩; have H5 := Lib.hid h5; have S5 := Lib.hid (S4.out.trans s5); clear h5 s5
         skip)
      | (go_at_call 23
         refine (law_Undo H5.out.law HX.out.1.inv _).mono ?_; rintro e6 w6 ⟨rfl, D6, h6, s6⟩; have H6 := Lib.hid h6; have S6 := Lib.hid ((((HAT.out.st.trans S5.out).step HB3.out.1 HB3.out.2.1 HB3.out.2.2)).trans s6); clear h6 s6
         skip)
      | fail)
     go_ret3
     rw [HEQ3.out]; exact ⟨_, D6, rfl, H6.out, S3.out.trans S6.out, IntSl.nil _ _⟩
   ·have d2 : (r.err == 0) = false := by simpa using he
    have heq := HEQ.out; rw [if_pos he] at heq; have HEQ3 := Lib.hid heq; clear heq HEQ he
    go_wp2_with (first
     | (go_at_call 28
        refine (HCALL.out).mono ?_; rintro e4 w4 ⟨rfl, D4, h4, s4⟩; have H4 := Lib.hid h4; have S4 := Lib.hid s4; clear h4 s4 hx)
     | (go_at_call 23
        refine (law_Undo H4.out.law HPT.out.go.inv _).mono ?_; rintro e6 w6 ⟨rfl, D6, h6, s6⟩; have H6 := Lib.hid h6; have S6 := Lib.hid ((((HAT.out.st.trans S4.out).step HB3.out.1 HB3.out.2.1 HB3.out.2.2)).trans s6); clear h6 s6
        skip)
     | fail)
    go_ret3
    rw [HEQ3.out]; exact ⟨_, D6, rfl, H6.out, S3.out.trans S6.out, IntSl.nil _ _⟩
  ·obtain rfl : i = args.length := by omega
   have d1 : decide ((args.length : Int) < (args.length : Int)) = false := by simp
   have heq := hat.eq; rw [List.drop_length] at heq; have HEQ := Lib.hid (heq.trans rfl : R = ⟨true, 0, Si, sl⟩); obtain ⟨c0, c1, c2, c3, c11⟩ := row12 hat.ex.row; have hsl2 := ex_slots hat.ex (by rw [hat.len]; have := HP.out.2.2.1; omega); have HSL := Lib.hid hsl2; clear heq hsl2 hat; go_wp2
   go_ret3
   rw [HEQ.out]; exact ⟨_, D1, rfl, HAT.out.ex.law, S3.out.trans (HAT.out.st.step HB3.out.1 HB3.out.2.1 HB3.out.2.2), HSL.out⟩
theorem ex_Match_nil (w : World) (c : Cod) (lv av : Value) : Calls Try.prog 10 #[.pointer none, codVal c lv, av] w fun e w' => e = .returned (.tuple #[.slice none 0 0, .bool false, .int .i64 2]) ∧ Below w.heap.size w w' := by
 have hb1 := below_new w (.cells #[.string c.name, .int .i64 c.args, .int .i64 c.slots, .int .i64 c.body, lv] 30 (0, 0)); have HB1 := Lib.hid hb1; clear hb1
 go_enter Try.func10, Try.ntmps10
 go_wp2
 go_ret3
 exact ⟨rfl, HB1.out⟩
theorem are_slok {S : Sto} {l : List Int} (h : areB S l true = true) : SlOk S l := fun x hx => by
 have := List.all_eq_true.1 h x hx
 simp at this
 omega
theorem ExAt.setSlots {w0 w : World} {p rb qb at_ k : Nat} {S : Sto} {D : Nat → Prop} {lv : Value} {L : List Ins} {sl : List Int} (h : ExAt w0 p rb qb S D lv L at_ sl k w) (l : List Int) (hl : l.length = sl.length) : ∃ cur, w.heap[qb]? = some (.cells cur 3 (0, 0)) ∧ cur.size = sl.length ∧ ExAt w0 p rb qb S D lv L at_ l k (w.setRow qb (l.map fun n => Value.int .i64 n).toArray) ∧ EStep rb qb D w D (w.setRow qb (l.map fun n => Value.int .i64 n).toArray) := by
 obtain ⟨cur, h1, h2⟩ := h.slots.row; have hz : (w.setRow qb (l.map fun n => Value.int .i64 n).toArray).heap.size = w.heap.size := by simp
 have ho : ∀ b, b ≠ qb → (w.setRow qb (l.map fun n => Value.int .i64 n).toArray).heap[b]? = w.heap[b]? := fun b hb => setRow_other _ _ _ _ hb
 have hr := setRow_heap w qb _ (l.map fun n => Value.int .i64 n).toArray _ _ h1; have hw0 := h.qF.2.1; refine ⟨cur, h1, h2, ⟨⟨h.law.sto.keep (by omega) fun b _ hd => ho b fun e => h.qF.1 (e ▸ hd), h.law.own, below_setRow h.law.bel hw0 _⟩, by rw [hl]; exact (ho rb (Ne.symm h.qF.2.2)).trans h.row, ⟨⟨_, hr, by simp⟩, fun i hi => ?_⟩, insSl_keepX h.ins fun b e => ho b (h.iF b e).2.2, h.rF, h.qF, fun b e => ⟨⟨(h.iF b e).1.1, by rw [hz]; exact (h.iF b e).1.2⟩, (h.iF b e).2⟩⟩, by omega, fun b hb => ⟨⟨hb.1, hb.2.1, hb.2.2.1, by rw [hz]; exact hb.2.2.2⟩, ho b hb.2.2.1⟩⟩; rw [cell_of_row _ qb i _ _ _ hr]
 simp [hi]
def BdPost (w0 : World) (p : Nat) (R : PtR) (n : Nat) (D : Nat → Prop) (w : World) (e : Ending) (w' : World) : Prop :=
 e = .returned (.tuple #[.int .i64 (if R.err = 0 then R.cell else 0), .int .i64 R.err]) ∧ LawDid w0 p D w (if R.err = 0 then R.S else cutS R.S n) w'
theorem ex_Build {w0 w : World} {p : Nat} {S : Sto} {D : Nat → Prop} (h : Law8 w0 p S D w) (hI : Inv S) (c : Cod) (lv : Value) (hins : InsSl w lv c.l) (hlv : ∀ b, slBlk lv = some b → Free D w b) (hck : check c = 0) (sls : List Int) (av : Value) (hav : IntSl w (Free D w) av sls) (hal : (sls.length : Int) = c.slots) (har : areB S sls true = true) {s : Nat} (hs : slotsN c.l 0 = some s) (hs2 : (s : Int) = c.slots) :
 Calls Try.prog 13 #[.pointer (some ⟨p, 0, none⟩), codVal c lv, av] w (BdPost w0 p (patX c.l c.l.length c.body.toNat S sls) S.cells.length D w) := by
 obtain ⟨a, j, s', hco⟩ := check_facts hck; obtain ⟨R, hR⟩ : ∃ R, R = patX c.l c.l.length c.body.toNat S sls := ⟨_, rfl⟩; rw [← hR]; have hsl := (slots_in c.l 0 s hs).2; have hok : ∀ i ∈ c.l, i.ok = true := fun i hi => List.all_eq_true.1 hco.ok i hi
 have hss : s ≤ 20000 := by have := slotsN_le _ _ _ hs; have := hco.len; omega
 obtain ⟨la, lc, rfl, hic⟩ := id hins; obtain ⟨qa, ca, rfl⟩ := hav.form; have hb1 := below_new w (.cells #[.string c.name, .int .i64 c.args, .int .i64 c.slots, .int .i64 c.body, .slice la c.l.length lc] 30 (0, 0)); have hr1 := heap_alloc_new w (.cells #[.string c.name, .int .i64 c.args, .int .i64 c.slots, .int .i64 c.body, .slice la c.l.length lc] 30 (0, 0)); obtain ⟨h1, s1, f1⟩ := h.below hb1; have hi1 : InsSl (w.alloc (.cells #[.string c.name, .int .i64 c.args, .int .i64 c.slots, .int .i64 c.body, .slice la c.l.length lc] 30 (0, 0))) (.slice la c.l.length lc) c.l := insSl_keepX hins fun b e => hb1.block b (hlv b e).2
 have ha1 := hav.step s1; have H1 := Lib.hid h1; have S1 := Lib.hid s1; have HI1 := Lib.hid hi1; have HA1 := Lib.hid ha1; have HLV := Lib.hid (fun b e => (s1.blk b (hlv b e)).1 : ∀ b, slBlk (.slice la c.l.length lc) = some b → Free D (w.alloc (.cells #[.string c.name, .int .i64 c.args, .int .i64 c.slots, .int .i64 c.body, .slice la c.l.length lc] 30 (0, 0))) b); have HCO := Lib.hid hco; have HP := Lib.hid (And.intro hok (And.intro hsl (And.intro hss (And.intro hs2 hal)))); have HR := Lib.hid hR; have HAR := Lib.hid har; have HCK := Lib.hid hck; obtain ⟨k0, k1, k2, k3, k4⟩ := row5 hr1; have hsm := hI.small; have hal5 : sls.length ≤ 1000000 := by omega
 clear hb1 hr1 h1 s1 f1 hi1 ha1 hco hok hsl hss hs2 hR har hck hic hins hlv hav h hs
 go_enter Try.func13, Try.ntmps13
 go_upto_region 1 with fail
 obtain ⟨w1, hw1⟩ : ∃ w1, w1 = w.alloc (.cells #[.string c.name, .int .i64 c.args, .int .i64 c.slots, .int .i64 c.body, .slice la c.l.length lc] 30 (0, 0)) := ⟨_, rfl⟩; rw [← hw1] at H1 S1 HI1 HA1 HLV k0 k1 k2 k3 k4 ⊢; have HW2 := Lib.hid (show w.heap.size < w1.heap.size by rw [hw1]; simp); clear hw1; generalize hgw : w.heap.size = g at *; have b1 : (check c != 0) = false := by rw [HCK.out]; rfl
 have b2 : ((sls.length : Int) != c.slots) = false := by simp; exact hal
 have b3 : (!areB S sls true) = false := by rw [HAR.out]; rfl
 have HAL := Lib.hid hal; clear hal
 go_wp2_with (first
  | (go_at_call 12
     refine (go_check c _ w1 HI1.out).mono ?_; rintro e2 w2 ⟨rfl, hb2⟩; obtain ⟨h2, s2, f2⟩ := H1.out.below hb2; have H2 := Lib.hid h2; have S2 := Lib.hid (S1.out.trans s2); have HA2 := Lib.hid (HA1.out.step s2); have HI2 := Lib.hid (insSl_keepX HI1.out fun b e => (s2.blk b (HLV.out b e)).2 : InsSl w2 (.slice la c.l.length lc) c.l); have HLV2 := Lib.hid (fun b e => (s2.blk b (HLV.out b e)).1 : ∀ b, slBlk (.slice la c.l.length lc) = some b → Free D w2 b); have HG2 := Lib.hid (show g < w2.heap.size from Nat.lt_of_lt_of_le HW2.out hb2.size); have m0 := (hb2.cell (p := ⟨g, 0, none⟩) HW2.out).trans k0; have m1 := (hb2.cell (p := ⟨g, 1, none⟩) HW2.out).trans k1; have m2 := (hb2.cell (p := ⟨g, 2, none⟩) HW2.out).trans k2; have m3 := (hb2.cell (p := ⟨g, 3, none⟩) HW2.out).trans k3; have m4 := (hb2.cell (p := ⟨g, 4, none⟩) HW2.out).trans k4; clear h2 s2 f2 hb2 k0 k1 k2 k3 k4 H1 S1 HA1 HI1 HLV)
  | (go_at_call 26
     refine (ex_are w2 H2.out.sto (by omega) sls _ _ HA2.out hal5 true).mono ?_; rintro e3 w3 ⟨rfl, rfl⟩; clear b1 b2)
  | (go_at_call 33
     refine (sto_Cells w2 H2.out.sto).mono ?_; rintro e4 w4 ⟨rfl, rfl⟩)
  | fail)
 have hs3 := HP.out.2.2.2.1; refine (ex_start p c _ w2 s hs3.symm (by have := HP.out.2.2.1; omega) ⟨_, _, _, rfl⟩).mono ?_; rintro e3 w3 ⟨rb, qb, rfl, hrow, hfill, hb3, hrb, hqb, hne⟩; obtain ⟨h3, s3, f3⟩ := H2.out.below hb3; have hlow := H2.out.law_low
 have hex : ExAt w0 p rb qb S D (.slice la c.l.length lc) c.l 0 (List.replicate s (-1)) 0 w3 := by
  have hz := hb3.size; refine ⟨h3, by rw [List.length_replicate]; exact hrow, by rw [List.length_replicate]; exact hfill, insSl_keepX HI2.out fun b e => (s3.blk b (HLV2.out b e)).2, ⟨fun e => by have := H2.out.dl rb e; omega, by omega⟩, ⟨fun e => by have := H2.out.dl qb e; omega, by omega, hne⟩, fun b e => ⟨(s3.blk b (HLV2.out b e)).1, fun e2 => ?_, fun e2 => ?_⟩⟩
  ·have := (HLV2.out b e).2; omega
  ·have := (HLV2.out b e).2; omega
 have ha3 : IntSl w3 (EOut rb qb D w3) (.slice qa sls.length ca) sls := HA2.out.move (fun b hb _ => ⟨hb.1, fun e => by have := hb.2; omega, fun e => by have := hb.2; omega, Nat.lt_of_lt_of_le hb.2 hb3.size⟩) fun b hb _ => hb3.block b hb.2
 have hbody : c.body = ((a : Nat) : Int) := HCO.out.body.symm; have m3' := (hb3.cell (p := ⟨g, 3, none⟩) HG2.out).trans m3; rw [hbody] at m3'; obtain ⟨c0, c1, c2, c3, c11⟩ := row12 hex.row; have hfz := (hex.setAtO a).2; obtain ⟨h4, s4⟩ := hex.setAt a; have H4 := Lib.hid h4; have S4 := Lib.hid s4; have HA4 := Lib.hid (show IntSl (w3.setCell ⟨rb, 2, none⟩ (.int .i64 a)) (EOut rb qb D (w3.setCell ⟨rb, 2, none⟩ (.int .i64 a))) (.slice qa sls.length ca) sls from ha3.move (fun b hb _ => (s4.blk b hb).1) fun b hb _ => (s4.blk b hb).2); have HB3 := Lib.hid (And.intro hb3 (And.intro hrb hqb)); have S3 := Lib.hid S2.out; have HBD := Lib.hid hbody; clear hex ha3 hlow h3 s3 f3 hrow hfill hb3 hrb hqb hne hs3 H2 HA2 HI2 HLV2 S2 m0 m1 m2 m3 m4 b3 h4 s4 hbody
 go_upto_region 6 with fail
 clear m3' c0 c1 c2 c3 c11 hfz; generalize w3.setCell ⟨rb, 2, none⟩ (.int .i64 (a : Int)) = W4 at *; have hls : sls.length = s := by have := HAL.out; have := HP.out.2.2.2.1; omega
 obtain ⟨cur, hcur, hcsz, h5, s5⟩ := H4.out.setSlots sls (by rw [hls, List.length_replicate]); rw [List.length_replicate] at hcsz; obtain ⟨c0, c1, c2, c3, c11⟩ := row12 H4.out.row; rw [List.length_replicate] at c3; have HCUR := Lib.hid (And.intro hcur hcsz); have H5 := Lib.hid h5; have S5 := Lib.hid (S4.out.trans s5); have HLS := Lib.hid hls; clear hcur hcsz h5 s5 hls
 by_cases hs0 : s = 0
 ·subst hs0
  obtain rfl : sls = [] := List.eq_nil_of_length_eq_zero HLS.out; have h44 : ExAt w0 p rb qb S D (.slice la c.l.length lc) c.l a [] 0 W4 := H4.out; have H44 := Lib.hid h44; clear h44; obtain ⟨r, hr⟩ : ∃ r, r = patX c.l c.l.length a S [] := ⟨_, rfl⟩; have hrr : R = r := by rw [HR.out, HBD.out, Int.toNat_natCast, hr]
  have hpt := patX_ok (L := c.l) (sn := 0) HP.out.1 HP.out.2.1 c.l.length a j S [] HCO.out.rest (by have := HCO.out.all; omega) hI (are_slok HAR.out) HLS.out; have hcall := ex_pattern (w0 := w0) (p := p) (rb := rb) (qb := qb) (k := 0) (lv := .slice la c.l.length lc) HCO.out.len (by have := HP.out.2.2.1; omega) HP.out.1 HP.out.2.1 c.l.length a j S [] D W4 H44.out hI (are_slok HAR.out) HLS.out HCO.out.rest (by have := HCO.out.all; omega); rw [← hr] at hpt hcall; have HCALL := Lib.hid hcall; have HPT := Lib.hid hpt; have HRR := Lib.hid hrr; clear hr hrr hpt hcall
  by_cases he : r.err = 0
  ·have d2 : (r.err != 0) = false := by simpa using he
   have HE := Lib.hid he; clear he
   go_wp2_with (first
    | (with_reducible show wpList _ _ _ (⟨some 47, _, _, _, _, _⟩ :: _) _ _
       refine wpList_copy_nothing (o := ⟨some 47, _, _, _, _, _⟩) rfl (.tmp 45) (.tmp 46) 38 38 rfl 3 Try.underlying38 (by kernel_rfl) _ _ _ _ _ _ rfl rfl rfl ?_
       skip)
    | (go_at_call 28
       refine (HCALL.out).mono ?_; rintro e6 w6 ⟨rfl, D6, h6, s6⟩; have H6 := Lib.hid h6; have S6 := Lib.hid (S4.out.trans s6); clear h6 s6)
    | fail)
   go_ret2; rw [HRR.out]; refine ⟨by show Ending.returned (.tuple #[.int .i64 r.cell, .int .i64 0]) = _; rw [if_pos HE.out, HE.out], ?_⟩; rw [if_pos HE.out]; exact ⟨D6, H6.out.law, S3.out.trans (S6.out.step HB3.out.1 HB3.out.2.1 HB3.out.2.2)⟩
  ·have d2 : (r.err != 0) = true := by simpa using he
   have HE := Lib.hid he; clear he
   go_wp2_with (first
    | (with_reducible show wpList _ _ _ (⟨some 47, _, _, _, _, _⟩ :: _) _ _
       refine wpList_copy_nothing (o := ⟨some 47, _, _, _, _, _⟩) rfl (.tmp 45) (.tmp 46) 38 38 rfl 3 Try.underlying38 (by kernel_rfl) _ _ _ _ _ _ rfl rfl rfl ?_
       skip)
    | (go_at_call 28
       refine (HCALL.out).mono ?_; rintro e6 w6 ⟨rfl, D6, h6, s6⟩; have H6 := Lib.hid h6; have S6 := Lib.hid (S4.out.trans s6); clear h6 s6)
    | (go_at_call 34
       refine (law_Cut H6.out.law HPT.out.go.inv _).mono ?_; rintro e7 w7 ⟨rfl, D7, h7, s7⟩; have H7 := Lib.hid h7; have S7 := Lib.hid ((S6.out.step HB3.out.1 HB3.out.2.1 HB3.out.2.2).trans s7); clear h7 s7)
    | fail)
   go_ret2; rw [HRR.out]; refine ⟨by show Ending.returned (.tuple #[.int .i64 0, .int .i64 r.err]) = _; rw [if_neg HE.out], ?_⟩; rw [if_neg HE.out]; exact ⟨D7, H7.out, S3.out.trans S7.out⟩
 ·obtain ⟨ab, ao, eqa, hx0⟩ := HA4.out.pick 0 (by have := HLS.out; omega)
  subst eqa
  have hsrc : ∀ j v, (sls.map fun n => Value.int .i64 n)[j]? = some v → W4.cell? (Addr.add ⟨ab, ao, none⟩ j) = some v := fun j v hv => by
   obtain ⟨h1, h2⟩ := List.getElem?_eq_some_iff.1 hv; rw [List.length_map] at h1; obtain ⟨b', o', e', hx⟩ := HA4.out.pick j h1; simp only [Option.some.injEq, Addr.mk.injEq, and_true] at e'; obtain ⟨rfl, rfl⟩ := e'; rw [Addr.add_lit, hx, ← h2, List.getElem_map]
  have HSRC := Lib.hid hsrc; clear hsrc hx0 hs0; rw [HLS.out]; obtain ⟨r, hr⟩ : ∃ r, r = patX c.l c.l.length a S sls := ⟨_, rfl⟩; have hrr : R = r := by rw [HR.out, HBD.out, Int.toNat_natCast, hr]
  have hpt := patX_ok (L := c.l) (sn := s) HP.out.1 HP.out.2.1 c.l.length a j S sls HCO.out.rest (by have := HCO.out.all; omega) hI (are_slok HAR.out) HLS.out; have hcall := ex_pattern (w0 := w0) (p := p) (rb := rb) (qb := qb) (k := 0) (lv := .slice la c.l.length lc) HCO.out.len (by have := HP.out.2.2.1; omega) HP.out.1 HP.out.2.1 c.l.length a j S sls D (W4.setRow qb (sls.map fun n => Value.int .i64 n).toArray) H5.out hI (are_slok HAR.out) HLS.out HCO.out.rest (by have := HCO.out.all; omega); rw [← hr] at hpt hcall; have HCALL := Lib.hid hcall; have HPT := Lib.hid hpt; have HRR := Lib.hid hrr; clear hr hrr hpt hcall
  by_cases he : r.err = 0
  ·have d2 : (r.err != 0) = false := by simpa using he
   have HE := Lib.hid he; clear he
   go_wp2_with (first
    | (with_reducible show wpList _ _ _ (⟨some 47, _, _, _, _, _⟩ :: _) _ _
       refine wpList_copy_all (o := ⟨some 47, _, _, _, _, _⟩) rfl (.tmp 45) (.tmp 46) 38 38 rfl 3 1 s qb s ca ⟨ab, ao, none⟩ Try.underlying38 (by kernel_rfl) rfl rfl cur _ (sls.map fun n => Value.int .i64 n) HCUR.out.1 (by rw [List.length_map, HLS.out, Nat.mul_one]) (by rw [HCUR.out.2, Nat.mul_one]) HSRC.out (by intro v hv; obtain ⟨n, -, rfl⟩ := List.mem_map.1 hv; rfl) ?_
       skip)
    | (go_at_call 28
       refine (HCALL.out).mono ?_; rintro e6 w6 ⟨rfl, D6, h6, s6⟩; have H6 := Lib.hid h6; have S6 := Lib.hid (S5.out.trans s6); clear h6 s6)
    | fail)
   go_ret2; rw [HRR.out]; refine ⟨by show Ending.returned (.tuple #[.int .i64 r.cell, .int .i64 0]) = _; rw [if_pos HE.out, HE.out], ?_⟩; rw [if_pos HE.out]; exact ⟨D6, H6.out.law, S3.out.trans (S6.out.step HB3.out.1 HB3.out.2.1 HB3.out.2.2)⟩
  ·have d2 : (r.err != 0) = true := by simpa using he
   have HE := Lib.hid he; clear he
   go_wp2_with (first
    | (with_reducible show wpList _ _ _ (⟨some 47, _, _, _, _, _⟩ :: _) _ _
       refine wpList_copy_all (o := ⟨some 47, _, _, _, _, _⟩) rfl (.tmp 45) (.tmp 46) 38 38 rfl 3 1 s qb s ca ⟨ab, ao, none⟩ Try.underlying38 (by kernel_rfl) rfl rfl cur _ (sls.map fun n => Value.int .i64 n) HCUR.out.1 (by rw [List.length_map, HLS.out, Nat.mul_one]) (by rw [HCUR.out.2, Nat.mul_one]) HSRC.out (by intro v hv; obtain ⟨n, -, rfl⟩ := List.mem_map.1 hv; rfl) ?_
       skip)
    | (go_at_call 28
       refine (HCALL.out).mono ?_; rintro e6 w6 ⟨rfl, D6, h6, s6⟩; have H6 := Lib.hid h6; have S6 := Lib.hid (S5.out.trans s6); clear h6 s6)
    | (go_at_call 34
       refine (law_Cut H6.out.law HPT.out.go.inv _).mono ?_; rintro e7 w7 ⟨rfl, D7, h7, s7⟩; have H7 := Lib.hid h7; have S7 := Lib.hid ((S6.out.step HB3.out.1 HB3.out.2.1 HB3.out.2.2).trans s7); clear h7 s7)
    | fail)
   go_ret2; rw [HRR.out]; refine ⟨by show Ending.returned (.tuple #[.int .i64 0, .int .i64 r.err]) = _; rw [if_neg HE.out], ?_⟩; rw [if_neg HE.out]; exact ⟨D7, H7.out, S3.out.trans S7.out⟩
def a21f : Tm := compT (⟨#[102]⟩ : ByteArray) [varT 0]
def a21H : Tm := compT (⟨#[112]⟩ : ByteArray) [varT 0, a21f]
def a21B : Tm := compT (⟨#[113]⟩ : ByteArray) [varT 0]
def a21L : List Ins := [⟨2, 0, 0, ⟨#[]⟩⟩, ⟨6, 1, 0, (⟨#[102]⟩ : ByteArray)⟩, ⟨3, 0, 0, ⟨#[]⟩⟩, ⟨6, 1, 0, (⟨#[113]⟩ : ByteArray)⟩, ⟨3, 0, 0, ⟨#[]⟩⟩]
def a21C : Cod := ⟨(⟨#[112]⟩ : ByteArray), 2, 1, 3, a21L⟩
theorem a21_comp : compE a21H a21B = (a21C, 0) := by
 unfold compE; rw [if_neg (by decide +kernel), if_neg (by decide +kernel), if_neg (by decide), if_neg (by decide +kernel)]; rfl
def s21_0 : Sto := ⟨100, [], []⟩
def s21_1 : Sto := ⟨100, [⟨3, 0, (⟨#[97]⟩ : ByteArray), [], -1, -1⟩], []⟩
def s21_2 : Sto := ⟨100, [⟨3, 0, (⟨#[97]⟩ : ByteArray), [], -1, -1⟩, ⟨1, 0, ⟨#[]⟩, [], -1, -1⟩], []⟩
def s21_3 : Sto := ⟨100, [⟨3, 0, (⟨#[97]⟩ : ByteArray), [], -1, -1⟩, ⟨1, 0, ⟨#[]⟩, [], -1, -1⟩, ⟨1, 0, ⟨#[]⟩, [], -1, -1⟩], []⟩
def s21_4 : Sto := bindS s21_3 2 0
def s21_5 : Sto := putW s21_4 [(0, 2)] a21f
def s21_6 : Sto := bindS s21_5 1 3
def s21_7 : Sto := putW s21_6 [(0, 2)] a21B
theorem p21_1 : putW s21_0 [] (atomT (⟨#[97]⟩ : ByteArray)) = s21_1 ∧ putA s21_0 [] (atomT (⟨#[97]⟩ : ByteArray)) = (0, 0) := by
 constructor
 ·kernel_rfl
 ·kernel_rfl
theorem p21_2 : freshW s21_1 = s21_2 ∧ freshA s21_1 = (1, 0) := by
 constructor
 ·kernel_rfl
 ·kernel_rfl
theorem p21_3 : patX a21L 5 0 s21_2 [-1] = ⟨2, 0, 1, s21_3, [2]⟩ := by kernel_rfl
theorem p21_5 : patX a21L 5 1 s21_4 [2] = ⟨3, 0, 3, s21_5, [2]⟩ := by kernel_rfl
theorem p21_7 : patX a21L 5 3 s21_6 [2] = ⟨4, 0, 5, s21_7, [2]⟩ := by kernel_rfl
theorem fol0E {S : Sto} {x : Nat} (hx : x < S.cells.length) (h : S.cells[x].lk < 0) : fol S x = x := fol_eq (f := 0) ⟨hx, h, rfl⟩
theorem cell0E {S : Sto} {x : Nat} (hx : x < S.cells.length) (h : S.cells[x].lk < 0) : cellF S x = S.cells[x] := by
 unfold cellF; rw [fol0E hx h, List.getElem?_eq_getElem hx]; rfl
theorem u21_1 : uniK false 20000 s21_3 [(2, 0)] = (some true, s21_4, 19999) := by
 have f2 : fol s21_3 2 = 2 := fol0E (by decide) (by decide); have f0 : fol s21_3 0 = 0 := fol0E (by decide) (by decide); have c2 : cellF s21_3 2 = ⟨1, 0, ⟨#[]⟩, [], -1, -1⟩ := cell0E (by decide) (by decide)
 have o : oneP s21_3 false 19999 2 0 = ((some true, s21_4, 19999), []) := by
  unfold oneP bindP; rw [f2, f0, c2]
  simp [s21_4]
 rw [uniK_one, o, if_pos rfl, uniK_nil]
theorem u21_2 : uniK false 19999 s21_5 [(3, 1)] = (some true, s21_6, 19998) := by
 have f3 : fol s21_5 3 = 3 := fol0E (by decide +kernel) (by decide +kernel); have f1 : fol s21_5 1 = 1 := fol0E (by decide +kernel) (by decide +kernel); have k3 : (cellF s21_5 3).k = 4 := by rw [cell0E (by decide +kernel) (by decide +kernel)]; decide +kernel
 have k1 : (cellF s21_5 1).k = 1 := by rw [cell0E (by decide +kernel) (by decide +kernel)]; decide +kernel
 have o : oneP s21_5 false 19998 3 1 = ((some true, s21_6, 19998), []) := by
  unfold oneP bindP; rw [f3, f1, k3, k1]
  simp [s21_6]
 rw [uniK_one, o, if_pos rfl, uniK_nil]
theorem m21 : matX (patX a21L a21L.length) [0, 1] 0 s21_2 (List.replicate 1 (-1)) 20000 = ⟨true, 0, s21_6, [2]⟩ := by
 have h1 : patX a21L a21L.length 0 s21_2 (List.replicate 1 (-1)) = ⟨2, 0, 1, s21_3, [2]⟩ := p21_3; have h2 : patX a21L a21L.length 1 s21_4 [2] = ⟨3, 0, 3, s21_5, [2]⟩ := p21_5; rw [matX_cons h1, if_neg (by decide)]; show (if (uniK false 20000 s21_3 [(2, 0)]).1 = some true then matX (patX a21L a21L.length) [1] 1 (uniK false 20000 s21_3 [(2, 0)]).2.1 [2] (uniK false 20000 s21_3 [(2, 0)]).2.2 else _) = _; rw [u21_1, if_pos rfl, matX_cons h2, if_neg (by decide)]; show (if (uniK false 19999 s21_5 [(3, 1)]).1 = some true then matX (patX a21L a21L.length) [] 3 (uniK false 19999 s21_5 [(3, 1)]).2.1 [2] (uniK false 19999 s21_5 [(3, 1)]).2.2 else _) = _; rw [u21_2, if_pos rfl]; rfl
theorem i21_0 : Inv s21_0 := Inv.new 100 (by decide) (by decide)
theorem i21_1 : Inv s21_1 := by have := (i21_0.putW [] (atomT (⟨#[97]⟩ : ByteArray))).1; rwa [p21_1.1] at this
theorem i21_2 : Inv s21_2 := by have := i21_1.freshW.1; rwa [p21_2.1] at this
theorem i21_3 : Inv s21_3 := by have := i21_2.freshW.1; exact this
theorem i21_4 : Inv s21_4 := i21_3.bind (by decide) (by decide) rfl rfl rfl (by decide)
theorem i21_5 : Inv s21_5 := (i21_4.putW [(0, 2)] a21f).1
theorem i21_6 : Inv s21_6 := i21_5.bind (by decide +kernel) (by decide +kernel) (by decide +kernel) (by decide +kernel) (by decide +kernel) (by decide)
theorem i21_7 : Inv s21_7 := (i21_6.putW [(0, 2)] a21B).1
theorem t21_a : Tr s21_7 (atomT (⟨#[97]⟩ : ByteArray)) 2 := by
 have e : fol s21_7 2 = 0 := fol_eq (f := 1) ⟨by decide +kernel, 0, by decide +kernel, by decide +kernel, by decide +kernel, rfl⟩; unfold atomT Tr; rw [e]; exact ⟨⟨3, 0, (⟨#[97]⟩ : ByteArray), [], -1, -1⟩, by kernel_rfl, rfl, trivial⟩
theorem t21_x : Tr s21_7 (compT (⟨#[102]⟩ : ByteArray) [atomT (⟨#[97]⟩ : ByteArray)]) 1 := by
 have e : fol s21_7 1 = 3 := fol_eq (f := 1) ⟨by decide +kernel, 3, by decide +kernel, by decide +kernel, by decide +kernel, rfl⟩; unfold compT Tr; rw [e]; exact ⟨⟨4, 0, (⟨#[102]⟩ : ByteArray), [2], -1, 2⟩, by kernel_rfl, rfl, t21_a, trivial⟩
theorem t21_b : Tr s21_7 (compT (⟨#[113]⟩ : ByteArray) [atomT (⟨#[97]⟩ : ByteArray)]) 4 := by
 have e : fol s21_7 4 = 4 := fol0E (by decide +kernel) (by decide +kernel); unfold compT Tr; rw [e]; exact ⟨⟨4, 0, (⟨#[113]⟩ : ByteArray), [2], -1, 2⟩, by kernel_rfl, rfl, t21_a, trivial⟩
end Go.Proofs.Ytcbijikalfodnaa.Tms
namespace Go.Proofs.Ytcbijikalfodnaa.Tms
open Go Go.RowKit Go.Proofs.Ytcbijikalfodnaa.Reg Go.Proofs.Ytcbijikalfodnaa.Rws Go.Proofs.Ytcbijikalfodnaa.Maps
open Go.Proofs.Ytcbijikalfodnaa.Cod (Ins Cod sk check slotsN InsSl InsAt codVal go_check Says says)
theorem l21_v (n : Int) (w : World) : Calls Try.prog 24 #[.int .i64 n] w fun e w' => e = .returned (varV n) ∧ Below w.heap.size w w' := by
 go_enter Try.func24, Try.ntmps24
 go_wp2; exact bodyPost_ret (v := varV n) (by simp [results, Try.results24, go_sem]) rfl ⟨rfl, (Below.refl _ _).alloc (Nat.le_refl _) _⟩
theorem l21_f (s : ByteArray) (a : Option Addr) (n cap : Nat) (w : World) : Calls Try.prog 22 #[.string s, .slice a n cap] w fun e w' => e = .returned (compV s a n cap) ∧ Below w.heap.size w w' := by
 go_enter Try.func22, Try.ntmps22
 go_wp2; exact bodyPost_ret (v := compV s a n cap) (by simp [results, Try.results22, go_sem]) rfl ⟨rfl, (Below.refl _ _).alloc (Nat.le_refl _) _⟩
theorem law_NewE (w0 w : World) (hb : Below w0.heap.size w0 w) (n : Int) (h1 : 1 ≤ n) (h2 : n ≤ 16777216) :
 Calls Try.prog 8 #[.int .i64 n] w fun e w' => e = .returned (.tuple #[.pointer (some ⟨w.heap.size, 0, none⟩), .int .i64 0]) ∧ ∃ D', Law8 w0 w.heap.size ⟨n, [], []⟩ D' w' ∧ Below w.heap.size w w' ∧ ∀ b, b < w.heap.size → Free D' w' b := by
 refine (sto_New n w h1 h2).mono ?_; rintro e w' ⟨rfl, hs, hb'⟩; exact ⟨rfl, _, ⟨hs, fun b e => by rw [e]; exact hb.size, hb.trans (hb'.mono hb.size)⟩, hb', fun b hlt => ⟨fun e => by omega, Nat.lt_of_lt_of_le hlt hb'.size⟩⟩
structure Cx21 (cr : Nat) (c : Cod) (lv : Value) (D : Nat → Prop) (w : World) : Prop where
 row : RowF D w cr (.cells #[.string c.name, .int .i64 c.args, .int .i64 c.slots, .int .i64 c.body, lv] 30 (0, 0))
 ins : InsSl w lv c.l
 blk : ∀ b, slBlk lv = some b → Free D w b
theorem Cx21.step {cr : Nat} {c : Cod} {lv : Value} {D D' : Nat → Prop} {w w' : World} (h : Cx21 cr c lv D w) (hs : Step D w D' w') : Cx21 cr c lv D' w' :=
 ⟨h.row.step hs, insSl_keepX h.ins fun b e => (hs.blk b (h.blk b e)).2, fun b e => (hs.blk b (h.blk b e)).1⟩
theorem insSl_blk {w : World} {v : Value} {L : List Ins} (h : InsSl w v L) (hn : L ≠ []) : ∃ b, slBlk v = some b ∧ b < w.heap.size := by
 obtain ⟨a, cap, rfl, hc⟩ := h; obtain ⟨b, off, rfl, h0, -⟩ := hc 0 (List.length_pos_iff.2 hn); refine ⟨b, rfl, ?_⟩; rcases Nat.lt_or_ge b w.heap.size with h | h
 ·exact h
 ·have : w.heap[b]? = none := Array.getElem?_eq_none h
  simp [World.cell?, this] at h0
theorem a21_go (v1 v2 : Value) (P1 P2 : Nat → Prop) (w : World) (h1 : IsTm w P1 v1 a21H) (h2 : IsTm w P2 v2 a21B) :
 Calls Try.prog 16 #[v1, v2] w fun e w' => ∃ a c, e = .returned (.tuple #[.agg #[.string (⟨#[112]⟩ : ByteArray), .int .i64 2, .int .i64 1, .int .i64 3, .slice a 5 c], .int .i64 0]) ∧ InsSl w' (.slice a 5 c) a21L ∧ Below w.heap.size w w' := by
 refine (go_Compile a21H a21B v1 v2 P1 P2 w (by decide) (by decide) h1 h2).mono ?_; rintro e w8 ⟨v8, rfl, hi8, hb8⟩; rw [a21_comp] at hi8 ⊢; obtain ⟨a8, c8, rfl⟩ := hi8.form; exact ⟨a8, c8, rfl, hi8, hb8⟩
theorem alive21 (w : World) : Calls Try.prog 6 #[] w (Says true w) := by
 go_enter Try.func6, Try.ntmps6
 go_wp2_with fail
 refine (l21_v 0 _).mono ?_; rintro e w1 ⟨rfl, hb1⟩; have HB1 := Lib.hid hb1; clear hb1
 go_wp2_with fail
 refine (l21_v 0 _).mono ?_; rintro e w2 ⟨rfl, hb2⟩; have HB2 := Lib.hid (HB1.out.trans (hb2.mono HB1.out.size)); clear hb2
 go_wp2_with fail
 have ha3 : Below w2.heap.size w2 (w2.alloc (.cells #[.int .i64 1, .int .i64 0, .string ⟨#[]⟩, .slice none 0 0] 49 (0, 0))) := (Below.refl _ _).alloc (Nat.le_refl _) _; have hr3 : IsSl (w2.alloc (.cells #[.int .i64 1, .int .i64 0, .string ⟨#[]⟩, .slice none 0 0] 49 (0, 0))) AnyB (.slice (some ⟨w2.heap.size, 0, none⟩) 1 1) [varT 0] := row1 (x := varT 0) (var_is _ _ 0); have HB3 := Lib.hid (HB2.out.trans (ha3.mono HB2.out.size)); generalize (w2.alloc (.cells #[.int .i64 1, .int .i64 0, .string ⟨#[]⟩, .slice none 0 0] 49 (0, 0))) = u3 at *; refine (l21_f _ _ _ _ _).mono ?_; rintro e w4 ⟨rfl, hb4⟩; have hi4 : IsTm w4 AnyB (compV (⟨#[102]⟩ : ByteArray) (some ⟨w2.heap.size, 0, none⟩) 1 1) a21f := comp_is (l := [varT 0]) (hr3.below hb4); have HB4 := Lib.hid (HB3.out.trans (hb4.mono HB3.out.size)); generalize w2.heap.size = g2 at *
 go_wp2_with fail
 have ha5 : Below w4.heap.size w4 (w4.alloc (.cells #[.int .i64 1, .int .i64 0, .string ⟨#[]⟩, .slice none 0 0, .int .i64 4, .int .i64 0, .string (⟨#[102]⟩ : ByteArray), .slice (some ⟨g2, 0, none⟩) 1 1] 49 (0, 0))) := (Below.refl _ _).alloc (Nat.le_refl _) _; have hr5 : IsSl (w4.alloc (.cells #[.int .i64 1, .int .i64 0, .string ⟨#[]⟩, .slice none 0 0, .int .i64 4, .int .i64 0, .string (⟨#[102]⟩ : ByteArray), .slice (some ⟨g2, 0, none⟩) 1 1] 49 (0, 0))) AnyB (.slice (some ⟨w4.heap.size, 0, none⟩) 2 2) [varT 0, a21f] := row2 (x := varT 0) (y := a21f) (var_is _ _ 0) hi4; have HB5 := Lib.hid (HB4.out.trans (ha5.mono HB4.out.size)); generalize (w4.alloc (.cells #[.int .i64 1, .int .i64 0, .string ⟨#[]⟩, .slice none 0 0, .int .i64 4, .int .i64 0, .string (⟨#[102]⟩ : ByteArray), .slice (some ⟨g2, 0, none⟩) 1 1] 49 (0, 0))) = u5 at *; refine (l21_f _ _ _ _ _).mono ?_; rintro e w6 ⟨rfl, hb6⟩; have HI6 : Hid (IsTm w6 AnyB (compV (⟨#[112]⟩ : ByteArray) (some ⟨w4.heap.size, 0, none⟩) 2 2) a21H) := Lib.hid (comp_is (l := [varT 0, a21f]) (hr5.below hb6)); have HB6 := Lib.hid (HB5.out.trans (hb6.mono HB5.out.size)); generalize w4.heap.size = g4 at *; clear hb4 ha3 hr3 hi4 ha5 hr5 hb6
 go_wp2_with fail
 refine (l21_v 0 _).mono ?_; rintro e w7 ⟨rfl, hb7⟩; have HB7 := Lib.hid (HB6.out.trans (hb7.mono HB6.out.size)); have HI7 := Lib.hid (HI6.out.below hb7); clear hb7
 go_wp2_with fail
 have ha8 : Below w7.heap.size w7 (w7.alloc (.cells #[.int .i64 1, .int .i64 0, .string ⟨#[]⟩, .slice none 0 0] 49 (0, 0))) := (Below.refl _ _).alloc (Nat.le_refl _) _; have hr8 : IsSl (w7.alloc (.cells #[.int .i64 1, .int .i64 0, .string ⟨#[]⟩, .slice none 0 0] 49 (0, 0))) AnyB (.slice (some ⟨w7.heap.size, 0, none⟩) 1 1) [varT 0] := row1 (x := varT 0) (var_is _ _ 0); have HB8 := Lib.hid (HB7.out.trans (ha8.mono HB7.out.size)); have HI8 := Lib.hid (HI7.out.below ha8); generalize (w7.alloc (.cells #[.int .i64 1, .int .i64 0, .string ⟨#[]⟩, .slice none 0 0] 49 (0, 0))) = u8 at *; refine (l21_f _ _ _ _ _).mono ?_; rintro e w9 ⟨rfl, hb9⟩; have HJ9 : Hid (IsTm w9 AnyB (compV (⟨#[113]⟩ : ByteArray) (some ⟨w7.heap.size, 0, none⟩) 1 1) a21B) := Lib.hid (comp_is (l := [varT 0]) (hr8.below hb9)); have HB9 := Lib.hid (HB8.out.trans (hb9.mono HB8.out.size)); have HI9 := Lib.hid (HI8.out.below hb9); generalize w7.heap.size = g7 at *; clear hb9 ha8 hr8
 go_wp2_with fail
 refine (a21_go _ _ _ _ _ HI9.out HJ9.out).mono ?_; rintro e w10 ⟨a8, c8, rfl, hi10, hb10⟩; have hb11 := below_new w10 (.cells #[.string (⟨#[112]⟩ : ByteArray), .int .i64 2, .int .i64 1, .int .i64 3, .slice a8 5 c8] 30 (0, 0)); have hr11 := heap_alloc_new w10 (.cells #[.string (⟨#[112]⟩ : ByteArray), .int .i64 2, .int .i64 1, .int .i64 3, .slice a8 5 c8] 30 (0, 0)); have HI11 := Lib.hid (hi10.below hb11); have HR11 := Lib.hid hr11; have HB11 := Lib.hid ((HB9.out.trans (hb10.mono HB9.out.size)).trans (hb11.mono (Nat.le_trans HB9.out.size hb10.size))); clear hi10 hb10 hb11 hr11 HI9 HJ9 HI6 HI7 HI8 HB1 HB2 HB3 HB4 HB5 HB6 HB7 HB8 HB9
 go_upto_region 2 with fail
 generalize w10.alloc (.cells #[.string (⟨#[112]⟩ : ByteArray), .int .i64 2, .int .i64 1, .int .i64 3, .slice a8 5 c8] 30 (0, 0)) = w11 at *; generalize w10.heap.size = cr at *
 go_wp2_with fail
 refine (law_NewE w w11 HB11.out 100 (by decide) (by decide)).mono ?_; rintro e w12 ⟨rfl, D, hl, hb12, hf⟩; have hcr : cr < w11.heap.size := (Array.getElem?_eq_some_iff.1 HR11.out).1
 have hcx : Cx21 cr a21C (.slice a8 5 c8) D w12 := ⟨⟨hf cr hcr, (hb12.block cr hcr).trans HR11.out⟩, HI11.out.below hb12, fun b e => by
  obtain ⟨b', e1, h1⟩ := insSl_blk HI11.out (by decide); obtain rfl : b' = b := by rw [e1] at e; exact Option.some.inj e
  exact hf b' h1⟩
 have HCX := Lib.hid hcx; have HL : Hid (Law8 w w11.heap.size s21_0 D w12) := Lib.hid hl; clear hl hb12 hf hcr hcx HR11 HI11 HB11; generalize w11.heap.size = p at *
 go_wp2_with fail
 have hp := law_Put0 HL.out i21_0 (atom_is w12 (fun _ => False) (⟨#[97]⟩ : ByteArray)) (fun b hb => hb.elim) (by decide); rw [p21_1.1, p21_1.2] at hp; refine hp.mono ?_; rintro e w13 ⟨rfl, D3, hl3, s3⟩; have HCX3 := Lib.hid (HCX.out.step s3); have HL3 := Lib.hid hl3; clear hp hl3 s3 HL HCX
 go_wp2_with fail
 have hp := law_FreshE HL3.out i21_1; rw [p21_2.1, p21_2.2] at hp; refine hp.mono ?_; rintro e w14 ⟨rfl, D4, hl4, s4⟩; have HCX4 := Lib.hid (HCX3.out.step s4); have HL4 := Lib.hid hl4; clear hp hl4 s4 HL3 HCX3; obtain ⟨k0, k1, k2, k3, k4⟩ := row5 HCX4.out.row.2; have hb5 := below_new w14 (.cells #[.int .i64 0, .int .i64 1] 3 (0, 0)); have hr5 := heap_alloc_new w14 (.cells #[.int .i64 0, .int .i64 1] 3 (0, 0)); obtain ⟨h5, s5, f5⟩ := HL4.out.below hb5
 have hi5 : IntSl (w14.alloc (.cells #[.int .i64 0, .int .i64 1] 3 (0, 0))) (Free D4 (w14.alloc (.cells #[.int .i64 0, .int .i64 1] 3 (0, 0)))) (.slice (some ⟨w14.heap.size, 0, none⟩) 2 2) [0, 1] := by
  refine ⟨_, _, rfl, Nat.le_refl _, by unfold maxLen; decide, fun i hi => ⟨w14.heap.size, 0, rfl, f5 _ (Nat.le_refl _) (by simp), by simp, ?_⟩⟩
  match i, hi with
  | 0, _ => exact cell_of_row _ _ 0 _ _ _ hr5
  | 1, _ => exact cell_of_row _ _ 1 _ _ _ hr5
  | j + 2, h => exact absurd h (by simp)
 have hcx5 := HCX4.out.step s5; have hm := ex_Match h5 i21_2 a21C (.slice a8 5 c8) hcx5.ins hcx5.blk (by decide +kernel) [0, 1] _ hi5 (by decide) (by decide) (s := 1) (by decide) (by decide); rw [show matX (patX a21C.l a21C.l.length) [0, 1] 0 s21_2 (List.replicate 1 (-1)) 20000 = ⟨true, 0, s21_6, [2]⟩ from m21] at hm; have HM := Lib.hid hm; have HCX5 := Lib.hid hcx5; clear hb5 hr5 h5 s5 f5 hi5 hcx5 hm
 go_wp2_with fail
 generalize w14.alloc (.cells #[.int .i64 0, .int .i64 1] 3 (0, 0)) = w15 at *; generalize w14.heap.size = g14 at *; refine HM.out.mono ?_; rintro e w16 ⟨v6, D6, rfl, hl6, s6, hv6⟩; have hl6' : Law8 w p s21_6 D6 w16 := hl6; have hv6' : IntSl w16 (Free D6 w16) v6 [2] := hv6; have HL6 := Lib.hid hl6'; have HCX6 := Lib.hid (HCX5.out.step s6); obtain ⟨q6, c6, rfl⟩ := hv6'.form; have HV6 := Lib.hid hv6'; clear hl6 hl6' hv6 hv6' s6 HM HCX5 k0 k1 k2 k3 k4; obtain ⟨k0, k1, k2, k3, k4⟩ := row5 HCX6.out.row.2; dsimp only; have hbd := ex_Build HL6.out i21_6 a21C (.slice a8 5 c8) HCX6.out.ins HCX6.out.blk (by decide +kernel) [2] _ HV6.out (by decide) (by decide +kernel) (s := 1) (by decide) (by decide); rw [show patX a21C.l a21C.l.length a21C.body.toNat s21_6 [2] = ⟨4, 0, 5, s21_7, [2]⟩ from p21_7] at hbd; have HBD := Lib.hid hbd; clear hbd
 go_wp2_with fail
 refine HBD.out.mono ?_; rintro e w17 ⟨he7, D7, hl7, s7⟩; obtain rfl : e = .returned (.tuple #[.int .i64 4, .int .i64 0]) := he7; have hl7' : Law8 w p s21_7 D7 w17 := hl7; have HL7 := Lib.hid hl7'; have HCX7 := Lib.hid (HCX6.out.step s7); clear hl7 hl7' s7 HBD HL6 HCX6 HV6 k0 k1 k2 k3 k4
 go_wp2_with fail
 have hg := law_Get HL7.out i21_7 1 t21_x (by decide) (by decide +kernel); refine hg.mono ?_; rintro e w18 ⟨a18, c18, he8, hl8, s8, hi8⟩; obtain rfl : e = .returned (.tuple #[.agg #[.int .i64 4, .int .i64 0, .string (⟨#[102]⟩ : ByteArray), .slice a18 1 c18], .int .i64 0]) := he8; clear hg; obtain ⟨b0, o0, rfl, hf0, ht0⟩ := hi8.args.at 0 (by decide); obtain ⟨-, -, -, -, z0, -⟩ := ht0.read; have hb9 := below_new w18 (.cells #[.int .i64 4, .int .i64 0, .string (⟨#[102]⟩ : ByteArray), .slice (some ⟨b0, o0, none⟩) 1 c18] 49 (0, 0)); have hr9 := heap_alloc_new w18 (.cells #[.int .i64 4, .int .i64 0, .string (⟨#[102]⟩ : ByteArray), .slice (some ⟨b0, o0, none⟩) 1 c18] 49 (0, 0)); obtain ⟨h9, s9, f9⟩ := hl8.below hb9; have HL9 := Lib.hid h9; have HCX9 := Lib.hid ((HCX7.out.step s8).step s9); have HR9 := Lib.hid (show RowF D7 (w18.alloc (.cells #[.int .i64 4, .int .i64 0, .string (⟨#[102]⟩ : ByteArray), .slice (some ⟨b0, o0, none⟩) 1 c18] 49 (0, 0))) w18.heap.size (.cells #[.int .i64 4, .int .i64 0, .string (⟨#[102]⟩ : ByteArray), .slice (some ⟨b0, o0, none⟩) 1 c18] 49 (0, 0)) from ⟨f9 _ (Nat.le_refl _) (by simp), hr9⟩); have HF9 := Lib.hid (And.intro (s9.blk b0 hf0).1 ((World.cell?_of_block (a := ⟨b0, o0 + 0 * 4 + 2, none⟩) (s9.blk b0 hf0).2).trans z0)); clear hl8 s8 hi8 hf0 ht0 z0 hb9 hr9 h9 s9 f9 HL7 HCX7
 go_wp2_with fail
 generalize w18.alloc (.cells #[.int .i64 4, .int .i64 0, .string (⟨#[102]⟩ : ByteArray), .slice (some ⟨b0, o0, none⟩) 1 c18] 49 (0, 0)) = w19 at *; generalize w18.heap.size = x14 at *; have hg := law_Get HL9.out i21_7 4 t21_b (by decide) (by decide +kernel); refine hg.mono ?_; rintro e w20 ⟨a20, c20, he10, hl10, s10, hi10⟩; obtain rfl : e = .returned (.tuple #[.agg #[.int .i64 4, .int .i64 0, .string (⟨#[113]⟩ : ByteArray), .slice a20 1 c20], .int .i64 0]) := he10; clear hg; obtain ⟨b1, o1, rfl, hf1, ht1⟩ := hi10.args.at 0 (by decide); obtain ⟨-, -, -, -, z1, -⟩ := ht1.read; have hb11 := below_new w20 (.cells #[.int .i64 4, .int .i64 0, .string (⟨#[113]⟩ : ByteArray), .slice (some ⟨b1, o1, none⟩) 1 c20] 49 (0, 0)); have hr11 := heap_alloc_new w20 (.cells #[.int .i64 4, .int .i64 0, .string (⟨#[113]⟩ : ByteArray), .slice (some ⟨b1, o1, none⟩) 1 c20] 49 (0, 0)); obtain ⟨h11, s11, f11⟩ := hl10.below hb11; have st := s10.trans s11; have HCX11 := Lib.hid (HCX9.out.step st); have HR11 := Lib.hid (HR9.out.step st); have HZ0 := Lib.hid ((World.cell?_of_block (a := ⟨b0, o0 + 0 * 4 + 2, none⟩) (st.blk b0 HF9.out.1).2).trans HF9.out.2); have HZ1 := Lib.hid ((World.cell?_of_block (a := ⟨b1, o1 + 0 * 4 + 2, none⟩) (s11.blk b1 hf1).2).trans z1); have HRR := Lib.hid hr11; have HBW := Lib.hid h11.bel; have HLT := Lib.hid (And.intro (st.blk b0 HF9.out.1).1.2 (s11.blk b1 hf1).1.2); clear hl10 s10 hi10 hf1 ht1 z1 hb11 hr11 h11 s11 f11 st HL9 HCX9 HF9 HR9; obtain ⟨k0, k1, k2, k3, k4⟩ := row5 HCX11.out.row.2
 go_wp2_with fail
 generalize w20.alloc (.cells #[.int .i64 4, .int .i64 0, .string (⟨#[113]⟩ : ByteArray), .slice (some ⟨b1, o1, none⟩) 1 c20] 49 (0, 0)) = w21 at *; generalize hx16 : w20.heap.size = x16 at *; refine (ex_Match_nil w21 a21C (.slice a8 5 c8) (.slice none 0 0)).mono ?_; rintro e w22 ⟨rfl, hb22⟩; have hx : x16 < w21.heap.size := (Array.getElem?_eq_some_iff.1 HRR.out).1; obtain ⟨y0, y1, y2, y3⟩ := row4 ((hb22.block x14 HR11.out.1.2).trans HR11.out.2); obtain ⟨v0, v1, v2, v3⟩ := row4 ((hb22.block x16 hx).trans HRR.out); have z0 : w22.cell? ⟨b0, o0 + 0 * 4 + 2, none⟩ = some (.string (⟨#[97]⟩ : ByteArray)) := (hb22.cell (p := ⟨b0, o0 + 0 * 4 + 2, none⟩) HLT.out.1).trans HZ0.out; have z1 : w22.cell? ⟨b1, o1 + 0 * 4 + 2, none⟩ = some (.string (⟨#[97]⟩ : ByteArray)) := (hb22.cell (p := ⟨b1, o1 + 0 * 4 + 2, none⟩) HLT.out.2).trans HZ1.out; rw [Nat.zero_mul, Nat.add_zero] at z0 z1; have HB := Lib.hid (HBW.out.trans (hb22.mono HBW.out.size)); clear hb22 hx k0 k1 k2 k3 k4; go_wp2; go_ret; exact says rfl HB.out
end Go.Proofs.Ytcbijikalfodnaa.Tms
namespace Go.Proofs.Ytcbijikalfodnaa.Tms
open Go Go.RowKit Go.Proofs.Ytcbijikalfodnaa.Reg Go.Proofs.Ytcbijikalfodnaa.Rws
open Go.Proofs.Ytcbijikalfodnaa.Cod (Ins Cod sk check slotsN)
theorem Ext.grw {S T : Sto} (h : Ext S T) : Grw S T := by
 induction h with
 | refl _ => exact .refl
 | step v t h hI hv ht hvl htl hk hne ih => exact .bind _ v t ih hI hv ⟨hv, hvl, hk⟩ ht ⟨ht, htl⟩ hne
theorem Grw.inv {S T : Sto} (hI : Inv S) (h : Grw S T) : Inv T := by
 cases h with
 | refl => exact hI
 | plus T l _ _ h => exact h
 | bind T v t _ hT hv hl ht htl hne => exact hT.bind hv ht hl.2.1 htl.2 hl.2.2 hne
theorem setTo_plus {T : Sto} {l : List SCell} {v : Nat} {x : Int} (hv : v < T.cells.length) : setTo (plusS T l) v x = setTo T v x ++ l := by
 have hv' : v < (plusS T l).cells.length := by simp [plusS]; omega
 rw [setTo_at hv', setTo_at hv]; show (T.cells ++ l).set v _ = _; rw [List.set_append_left _ _ hv]
 congr 2
 simp [plusS, List.getElem_append_left hv]
theorem loose_plus {T : Sto} {l : List SCell} (hb : ∀ b ∈ T.bonds, b.1.toNat < T.cells.length) : looseS (plusS T l) = plusS (looseS T) l := by
 unfold looseS; show (match T.bonds.getLast? with | none => _ | some b => _) = _; cases h : T.bonds.getLast? with
 | none => rfl
 | some b =>
   simp only; rw [setTo_plus (hb b (List.mem_of_getLast? h))]; rfl
theorem loose_bnd {T : Sto} (hb : ∀ b ∈ T.bonds, b.1.toNat < T.cells.length) : ∀ b ∈ (looseS T).bonds, b.1.toNat < (looseS T).cells.length := by
 unfold looseS; cases h : T.bonds.getLast? with
 | none => exact hb
 | some b =>
   simp only; intro c hc; rw [setTo_len]; exact hb c (List.dropLast_subset _ hc)
theorem undoN_plus : ∀ (n : Nat) {T : Sto} {l : List SCell}, (∀ b ∈ T.bonds, b.1.toNat < T.cells.length) → undoN n (plusS T l) = plusS (undoN n T) l
 | 0, _, _, _ => rfl
 | n + 1, T, l, hb => by
   show undoN n (looseS (plusS T l)) = plusS (undoN n (looseS T)) l; rw [loose_plus hb, undoN_plus n (loose_bnd hb)]
theorem undoS_plus {T : Sto} (hI : Inv T) (l : List SCell) (m : Int) : undoS (plusS T l) m = plusS (undoS T m) l := by
 unfold undoS
 exact undoN_plus _ fun b hb => by
  obtain ⟨v, c, e, hc, -⟩ := hI.bond b hb; rw [e, Int.toNat_natCast]; exact (List.getElem?_eq_some_iff.1 hc).1
structure Undone (S T : Sto) (l : List SCell) : Prop where
 eq : undoS T (S.bonds.length : Nat) = plusS S l
 ok : ∀ c ∈ l, CellOk (S.cells.length + l.length) c ∧ c.lk = -1
 len : S.cells.length + l.length = T.cells.length
 room : T.room = S.room
 bnd : S.bonds.length ≤ T.bonds.length
theorem Grw.undo {S T : Sto} (hI : Inv S) (h : Grw S T) : ∃ l, Undone S T l := by
 induction h with
 | refl => exact ⟨[], by rw [undoS_self, plus_nil], fun c hc => (by cases hc), rfl, rfl, Nat.le_refl _⟩
 | plus T l h hl hT ih =>
   obtain ⟨l0, h0⟩ := ih; refine ⟨l0 ++ l, by rw [undoS_plus (h.inv hI), h0.eq, plus_plus], fun c hc => ?_, ?_, h0.room, h0.bnd⟩
   ·rcases List.mem_append.1 hc with hc | hc
    ·exact ⟨(h0.ok c hc).1.mono (by rw [List.length_append]; omega), (h0.ok c hc).2⟩
    ·have := hl c hc
     have e := h0.len; exact ⟨this.1.mono (by simp; omega), this.2⟩
   ·have := h0.len
    simp [plusS]
    omega
 | bind T v t h hT hv hl ht htl hne ih =>
   obtain ⟨l0, h0⟩ := ih; refine ⟨l0, by rw [undoS_bind hv hl.2.1 h0.bnd, h0.eq], h0.ok, ?_, h0.room, ?_⟩
   ·rw [h0.len, bindS_cells hv, List.length_set]
   ·have := h0.bnd
    simp [bindS]
    omega
theorem Undone.inv {S T : Sto} {l : List SCell} (hI : Inv S) (hT : Inv T) (h : Undone S T l) : Inv (plusS S l) :=
 hI.plus l h.ok (by have := hT.len; rw [h.room] at this; have := h.len; omega)
structure MxOk (S : Sto) (sn : Nat) (r : MtR) : Prop where
 grw : Grw S r.S
 slots : SlOk r.S r.sl
 len : r.sl.length = sn
 err : r.err = 0 ∨ r.err = 9 ∨ r.err = 16
 ok : r.ok = true → r.err = 0
end Go.Proofs.Ytcbijikalfodnaa.Tms
namespace Go.Proofs.Ytcbijikalfodnaa.Tms
open Go Go.RowKit Go.Proofs.Ytcbijikalfodnaa.Reg Go.Proofs.Ytcbijikalfodnaa.Rws Go.Proofs.Ytcbijikalfodnaa.Maps
open Go.Proofs.Ytcbijikalfodnaa.Cod (Ins Cod sk check slotsN)
def mapI (φ : Nat → Nat) (a : Int) : Int := if a < 0 then a else (φ a.toNat : Int)
theorem mapI_nat (φ : Nat → Nat) (n : Nat) : mapI φ (n : Int) = (φ n : Int) := by unfold mapI; rw [if_neg (by omega), Int.toNat_natCast]
theorem mapI_neg (φ : Nat → Nat) {a : Int} (h : a < 0) : mapI φ a = a := if_pos h
theorem mapI_pos (φ : Nat → Nat) {a : Int} (h : 0 ≤ a) : mapI φ a = (φ a.toNat : Int) := if_neg (by omega)
theorem mapI_toNat (φ : Nat → Nat) {a : Int} (h : 0 ≤ a) : (mapI φ a).toNat = φ a.toNat := by rw [mapI_pos φ h, Int.toNat_natCast]
structure Emb (φ : Nat → Nat) (S T : Sto) : Prop where
 lt : ∀ x, x < S.cells.length → φ x < T.cells.length
 inj : ∀ x y, x < S.cells.length → y < S.cells.length → φ x = φ y → x = y
 cell : ∀ (x : Nat) (c : SCell), S.cells[x]? = some c → ∃ d, T.cells[φ x]? = some d ∧ d.k = c.k ∧ d.n = c.n ∧ d.s = c.s ∧ d.args = c.args.map (mapI φ) ∧ d.lk = mapI φ c.lk
section
variable {φ : Nat → Nat} {S T : Sto}
theorem Emb.ch (h : Emb φ S T) : ∀ {f x r : Nat}, Ch S f x r → Ch T f (φ x) (φ r)
 | 0, x, r, hc => by
   obtain ⟨hx, hl, rfl⟩ := hc; obtain ⟨d, hd, -, -, -, -, e⟩ := h.cell r _ (List.getElem?_eq_getElem hx); obtain ⟨h1, h2⟩ := List.getElem?_eq_some_iff.1 hd; exact ⟨h1, by rw [h2, e, mapI_neg _ hl]; exact hl, rfl⟩
 | f + 1, x, r, hc => by
   obtain ⟨hx, y, hl, hc⟩ := hc; obtain ⟨d, hd, -, -, -, -, e⟩ := h.cell x _ (List.getElem?_eq_getElem hx); obtain ⟨h1, h2⟩ := List.getElem?_eq_some_iff.1 hd; exact ⟨h1, φ y, by rw [h2, e, hl, mapI_nat], h.ch hc⟩
theorem Emb.fol (h : Emb φ S T) (hS : Inv S) {x : Nat} (hx : x < S.cells.length) : Tms.fol T (φ x) = φ (Tms.fol S x) := by
 obtain ⟨f, hc, -⟩ := hS.stoIn.fol hx; exact fol_eq (h.ch hc)
theorem Emb.root (h : Emb φ S T) (hS : Inv S) {x : Nat} (hx : x < S.cells.length) : (cellF T (φ x)).k = (cellF S x).k ∧ (cellF T (φ x)).n = (cellF S x).n ∧ (cellF T (φ x)).s = (cellF S x).s ∧ (cellF T (φ x)).args = (cellF S x).args.map (mapI φ) := by
 obtain ⟨f, hc, hg⟩ := hS.stoIn.fol hx; obtain ⟨d, hd, e1, e2, e3, e4, -⟩ := h.cell _ _ hg
 have hf : cellF T (φ x) = d := by
  unfold cellF; rw [h.fol hS hx, hd]; rfl
 rw [hf]; exact ⟨e1, e2, e3, e4⟩
theorem Emb.bind (h : Emb φ S T) {v t : Nat} (hv : v < S.cells.length) (ht : t < S.cells.length) : Emb φ (bindS S v t) (bindS T (φ v) (φ t)) := by
 have e1 : (bindS S v t).cells.length = S.cells.length := by rw [bindS_cells hv, List.length_set]
 have e2 : (bindS T (φ v) (φ t)).cells.length = T.cells.length := by rw [bindS_cells (h.lt v hv), List.length_set]
 refine ⟨fun x hx => by rw [e2]; exact h.lt x (by omega), fun x y hx hy => h.inj x y (by omega) (by omega), fun x c hc => ?_⟩; rw [bindS_cells hv] at hc; rw [bindS_cells (h.lt v hv)]
 by_cases hxv : x = v
 ·subst hxv
  rw [List.getElem?_set_self hv, Option.some.injEq] at hc; subst hc; obtain ⟨d, hd, g1, g2, g3, g4, g5⟩ := h.cell x _ (List.getElem?_eq_getElem hv); obtain ⟨h1, h2⟩ := List.getElem?_eq_some_iff.1 hd; rw [List.getElem?_set_self (h.lt x hv), h2]; exact ⟨_, rfl, g1, g2, g3, g4, (mapI_nat φ t).symm⟩
 ·rw [List.getElem?_set_ne (Ne.symm hxv)] at hc
  obtain ⟨d, hd, g⟩ := h.cell x c hc; have hx : x < S.cells.length := (List.getElem?_eq_some_iff.1 hc).1; rw [List.getElem?_set_ne (fun e => hxv (h.inj v x hv hx e).symm)]; exact ⟨d, hd, g⟩
def mapP (φ : Nat → Nat) (l : List (Nat × Nat)) : List (Nat × Nat) := l.map fun p => (φ p.1, φ p.2)
theorem zip_map {φ : Nat → Nat} : ∀ {l m : List Int}, (∀ a ∈ l, 0 ≤ a) → (∀ a ∈ m, 0 ≤ a) → ((l.map (mapI φ)).map Int.toNat).zip ((m.map (mapI φ)).map Int.toNat) = mapP φ ((l.map Int.toNat).zip (m.map Int.toNat))
 | [], _, _, _ => rfl
 | _ :: _, [], _, _ => rfl
 | a :: l, b :: m, ha, hb => by
   simp only [List.map_cons, List.zip_cons_cons, mapP]; rw [mapI_toNat φ (ha a (List.mem_cons_self ..)), mapI_toNat φ (hb b (List.mem_cons_self ..))]
   congr 1
   exact zip_map (fun x hx => ha x (List.mem_cons_of_mem _ hx)) fun x hx => hb x (List.mem_cons_of_mem _ hx)
theorem bindP_plain (S : Sto) (k v t : Nat) (tk : Int) : bindP S false k v t tk = (some true, bindS S v t, k) := by unfold bindP; rw [if_neg (by simp)]
theorem Emb.one (h : Emb φ S T) (hS : Inv S) {k a b : Nat} (ha : a < S.cells.length) (hb : b < S.cells.length) :
 (oneP T false k (φ a) (φ b)).1.1 = (oneP S false k a b).1.1 ∧ (oneP T false k (φ a) (φ b)).1.2.2 = (oneP S false k a b).1.2.2 ∧ (oneP T false k (φ a) (φ b)).2 = mapP φ (oneP S false k a b).2 ∧ Emb φ (oneP S false k a b).1.2.1 (oneP T false k (φ a) (φ b)).1.2.1 := by
 obtain ⟨a1, a2, a3, a4⟩ := h.root hS ha; obtain ⟨b1, b2, b3, b4⟩ := h.root hS hb; have fa := h.fol hS ha; have fb := h.fol hS hb; obtain ⟨la, ca, -⟩ := hS.root ha; obtain ⟨lb, cb, -⟩ := hS.root hb; have pa : ∀ x ∈ (cellF S a).args, (0 : Int) ≤ x := fun x hx => by rw [← ca] at hx; exact ((hS.cell _ _ (List.getElem?_eq_getElem la)).args x hx).1
 have pb : ∀ x ∈ (cellF S b).args, (0 : Int) ≤ x := fun x hx => by rw [← cb] at hx; exact ((hS.cell _ _ (List.getElem?_eq_getElem lb)).args x hx).1
 unfold oneP; simp only [bindP_plain]; rw [fa, fb, a1, a2, a3, a4, b1, b2, b3, b4]
 by_cases e : Tms.fol S a = Tms.fol S b
 ·rw [if_pos e, if_pos (by rw [e])]
  exact ⟨rfl, rfl, rfl, h⟩
 rw [if_neg e, if_neg (fun e' => e (h.inj _ _ la lb e'))]
 by_cases e1 : (cellF S a).k = 1
 ·rw [if_pos e1, if_pos e1]
  exact ⟨rfl, rfl, rfl, h.bind la lb⟩
 rw [if_neg e1, if_neg e1]
 by_cases e2 : (cellF S b).k = 1
 ·rw [if_pos e2, if_pos e2]
  exact ⟨rfl, rfl, rfl, h.bind lb la⟩
 rw [if_neg e2, if_neg e2, List.length_map, List.length_map]
 by_cases e3 : (cellF S a).k ≠ (cellF S b).k ∨ (cellF S a).n ≠ (cellF S b).n ∨ (cellF S a).s ≠ (cellF S b).s ∨ (cellF S a).args.length ≠ (cellF S b).args.length
 ·rw [if_pos e3, if_pos e3]
  exact ⟨rfl, rfl, rfl, h⟩
 rw [if_neg e3, if_neg e3]; refine ⟨rfl, rfl, ?_, h⟩; unfold argN; rw [a4, b4]; exact zip_map pa pb
def upd (φ : Nat → Nat) (n m : Nat) (x : Nat) : Nat := if x < n then φ x else m + (x - n)
theorem upd_lt {n m x : Nat} (h : x < n) : upd φ n m x = φ x := if_pos h
theorem upd_new {n m : Nat} : upd φ n m n = m := by unfold upd; rw [if_neg (Nat.lt_irrefl n)]; omega
theorem map_upd {n m : Nat} {l : List Int} (h : ∀ a ∈ l, a < (n : Int)) : l.map (mapI (upd φ n m)) = l.map (mapI φ) := by
 apply List.map_congr_left
 intro a ha; unfold mapI
 by_cases h0 : a < 0
 ·rw [if_pos h0, if_pos h0]
 ·have hl : a.toNat < n := by have := h a ha; omega
  rw [if_neg h0, if_neg h0, upd_lt hl]
theorem Emb.add (h : Emb φ S T) (hS : Inv S) {c d : SCell} (hk : d.k = c.k) (hn : d.n = c.n) (hs : d.s = c.s) (ha : d.args = c.args.map (mapI φ)) (hc : ∀ a ∈ c.args, a < (S.cells.length : Int)) (hlc : c.lk = -1) (hld : d.lk = -1) :
 Emb (upd φ S.cells.length T.cells.length) (plusS S [c]) (plusS T [d]) := by
 have e1 : (plusS S [c]).cells.length = S.cells.length + 1 := by simp [plusS]
 have e2 : (plusS T [d]).cells.length = T.cells.length + 1 := by simp [plusS]
 refine ⟨fun x hx => ?_, fun x y hx hy e => ?_, fun x y hx => ?_⟩
 ·rw [e2]
  by_cases hlt : x < S.cells.length
  ·rw [upd_lt hlt]; have := h.lt x hlt; omega
  ·obtain rfl : x = S.cells.length := by omega
   rw [upd_new]; omega
 ·by_cases h1 : x < S.cells.length
  ·have l1 := h.lt x h1
   by_cases h2 : y < S.cells.length
   ·rw [upd_lt h1, upd_lt h2] at e
    exact h.inj x y h1 h2 e
   ·obtain rfl : y = S.cells.length := by omega
    rw [upd_lt h1, upd_new] at e; omega
  ·obtain rfl : x = S.cells.length := by omega
   by_cases h2 : y < S.cells.length
   ·have l2 := h.lt y h2
    rw [upd_lt h2, upd_new] at e; omega
   ·omega
 ·by_cases h1 : x < S.cells.length
  ·have hx' : S.cells[x]? = some y := by
    rw [← hx]; show _ = (S.cells ++ [c])[x]?
    rw [List.getElem?_append_left h1]
   obtain ⟨z, hz, g1, g2, g3, g4, g5⟩ := h.cell x y hx'; have hok := hS.cell x y hx'; refine ⟨z, ?_, g1, g2, g3, ?_, ?_⟩
   ·rw [upd_lt h1]; show (T.cells ++ [d])[_]? = _
    rw [List.getElem?_append_left (h.lt x h1)]; exact hz
   ·rw [g4, map_upd fun a ha => (hok.args a ha).2]
   ·rw [g5]
    unfold mapI
    by_cases h0 : y.lk < 0
    ·rw [if_pos h0, if_pos h0]
    ·have hl : y.lk.toNat < S.cells.length := by rcases hok.lk with e | e <;> omega
     rw [if_neg h0, if_neg h0, upd_lt hl]
  ·have hxl : x < (S.cells ++ [c]).length := (List.getElem?_eq_some_iff.1 hx).1
   obtain rfl : x = S.cells.length := by rw [List.length_append, List.length_singleton] at hxl; omega
   have hx' : y = c := by
    have : (S.cells ++ [c])[S.cells.length]? = some y := hx; rw [List.getElem?_append_right (Nat.le_refl _), Nat.sub_self] at this
    simpa using this.symm
   subst hx'; refine ⟨d, ?_, hk, hn, hs, by rw [ha, map_upd hc], by rw [hlc, hld]; rfl⟩; rw [upd_new]; show (T.cells ++ [d])[_]? = _
   rw [List.getElem?_append_right (Nat.le_refl _), Nat.sub_self]; rfl
end
def Laid (d : SCell) (k n : Int) (s : ByteArray) (args : List Int) : Prop := d.k = k ∧ d.n = n ∧ d.s = s ∧ d.args = args ∧ d.lk = -1
theorem fresh_laid {S : Sto} (hr : (S.cells.length : Int) < S.room) : freshA S = ((S.cells.length : Int), 0) ∧ ∃ d, freshW S = plusS S [d] ∧ Laid d 1 0 ⟨#[]⟩ [] :=
 ⟨if_pos hr, ⟨1, 0, ⟨#[]⟩, [], -1, lastTop S.cells⟩, if_pos hr, rfl, rfl, rfl, rfl, rfl⟩
theorem put_laid {S : Sto} {M : List (Int × Int)} {t : Tm} (hm : MayPut S M t) {k n : Int} {s : ByteArray} {args : List Int} (h : (putR S M t).1 = (S.cells.length : Int) ∧ (putR S M t).2.1 = [⟨k, n, s, args, -1, lastTop S.cells⟩]) (a : Nat) (sl : List Int) :
 ∃ d, putXE a S sl M t = ⟨(S.cells.length : Int), 0, a, plusS S [d], sl⟩ ∧ Laid d k n s args := by
 obtain ⟨e1, e2, -⟩ := hm.eq; refine ⟨{ (⟨k, n, s, args, -1, lastTop S.cells⟩ : SCell) with top := maxA (lastTop S.cells) args }, ?_, rfl, rfl, rfl, rfl, rfl⟩; unfold putXE; rw [e1, e2, h.1]; unfold putS; rw [h.2]; rfl
theorem int_laid {S : Sto} (hr : (S.cells.length : Int) < S.room) (n : Int) (a : Nat) (sl : List Int) : ∃ d, putXE a S sl [] (intT n) = ⟨(S.cells.length : Int), 0, a, plusS S [d], sl⟩ ∧ Laid d 2 n ⟨#[]⟩ [] :=
 put_laid (may_put0 (int_ckX n) (by simp [intT, Tm.size, sizeL]; omega)) ⟨rfl, rfl⟩ a sl
theorem atom_laid {S : Sto} (hr : (S.cells.length : Int) < S.room) {s : ByteArray} (hs : s.size ≤ 1000) (a : Nat) (sl : List Int) : ∃ d, putXE a S sl [] (atomT s) = ⟨(S.cells.length : Int), 0, a, plusS S [d], sl⟩ ∧ Laid d 3 0 s [] :=
 put_laid (may_put0 (atom_ckX hs) (by simp [atomT, Tm.size, sizeL]; omega)) ⟨rfl, rfl⟩ a sl
theorem numM_get (l : List Int) : ∀ (j : Nat) (h : j < l.length), mget (numM l) (j : Int) = some l[j] := by
 have key : ∀ (l : List Int) (b j : Nat) (h : j < l.length), mget ((l.zipIdx b).map fun p => ((p.2 : Int), p.1)) ((b + j : Nat) : Int) = some l[j] := by
  intro l
  induction l with
  | nil => intro b j h; simp at h
  | cons a l ih =>
    intro b j h; rw [List.zipIdx_cons, List.map_cons]; cases j with
    | zero => unfold mget; simp
    | succ j =>
      have := ih (b + 1) j (by simpa using h); rw [show b + 1 + j = b + (j + 1) by omega] at this; unfold mget; rw [if_neg (by simp; omega)]
      simpa using this
 intro j h; have := key l 0 j h; rw [Nat.zero_add] at this; exact this
theorem putL_told {told : Int → Option Int} {T0 : Int} : ∀ (l : List Int) (ts : List Tm) (b : Nat) (F : List (Int × Int)), ts.length = l.length → (∀ (i : Nat) (h : i < ts.length) (h' : i < l.length), (ts[i]).k = 1 ∧ told (ts[i]).n = some l[i]) → putL told T0 b F ts = (l, [], F)
 | [], [], b, F, _, _ => rfl
 | [], _ :: _, _, _, h, _ => by simp at h
 | _ :: _, [], _, _, h, _ => by simp at h
 | a :: l, t :: ts, b, F, h, hl => by
   have h12 : t.k = 1 ∧ told t.n = some a := hl 0 (by simp) (by simp)
   have e : putT told T0 b F t = (a, [], F) := by
    rw [putT_var h12.1, h12.2]
   unfold putL; rw [e]; have ih := putL_told (T0 := T0) l ts b F (by simpa using h) (fun i g g' => hl (i + 1) (by simp; omega) (by simp; omega)); show (a :: (putL told T0 b F ts).1, [] ++ (putL told T0 b F ts).2.1, (putL told T0 b F ts).2.2) = _; rw [ih]; rfl
theorem comp_laid {S : Sto} (hr : (S.cells.length : Int) < S.room) {s : ByteArray} (hs : s.size ≤ 1000) {cs : List Int} (hc : ∀ c ∈ cs, 0 ≤ c ∧ c < S.cells.length) {n : Nat} (hn : cs.length = n) (h1 : 1 ≤ n) (h2 : n ≤ 255) (a : Nat) (sl : List Int) :
 ∃ d, putXE a S sl (numM cs) (compT s (varsX n)) = ⟨(S.cells.length : Int), 0, a, plusS S [d], sl⟩ ∧ Laid d 4 0 s cs := by
 have hck := comp_ckX hs h1 h2
 have hp : putL (fun n => mget (numM cs) n) (lastTop S.cells) (S.cells.length + 1) [] (varsX n) = (cs, [], []) := by
  refine putL_told cs (varsX n) _ _ (by simp [varsX, hn]) fun i h h' => ?_
  have e : (varsX n)[i] = varT (i : Int) := by simp [varsX]
  rw [e]; exact ⟨rfl, numM_get cs i h'⟩
 have hR : putR S (numM cs) (compT s (varsX n)) = ((S.cells.length : Int), [⟨4, 0, s, cs, -1, lastTop S.cells⟩], []) := by
  unfold putR compT putT; rw [if_neg (by decide), if_pos rfl, hp]
 have hcn : ∀ (ts : List Tm) (c : Nat), (∀ t ∈ ts, t.k = 1 ∧ ∃ a, mget (numM cs) t.n = some a) → (cntL (fun n => mget (numM cs) n) S.cells.length c [] ts).2.1 = c := by
  intro ts
  induction ts with
  | nil => intro c _; unfold cntL; rfl
  | cons t ts ih =>
    intro c h; obtain ⟨g1, a, g2⟩ := h t (List.mem_cons_self ..); have hM := (numM_ok hc).inn _ (mget_some g2)
    have e : cntT (fun n => mget (numM cs) n) S.cells.length c [] t = (true, c, []) := by
     rw [cntT_var g1, g2]
     simp
     exact hM
    unfold cntL; rw [e]; simp only [if_true]; exact ih c fun t' ht' => h t' (List.mem_cons_of_mem _ ht')
 have hm : MayPut S (numM cs) (compT s (varsX n)) := by
  have hall : (cntM S (numM cs) (compT s (varsX n))).1 = true := cnt_all (fun m x hx => (numM_ok hc).inn _ (mget_some hx)) _ 0 []; refine ⟨hck, hall, ?_⟩
  have e : (cntT (fun n => mget (numM cs) n) S.cells.length 0 [] (compT s (varsX n))).2.1 = 1 := by
   rw [cntT_not (show (compT s (varsX n)).k ≠ 1 from by show (4 : Int) ≠ 1; decide)]; refine hcn _ 1 fun t ht => ?_
   unfold varsX at ht; obtain ⟨j, hj, rfl⟩ := List.mem_map.1 ht; have hj' := List.mem_range.1 hj; exact ⟨rfl, cs[j]'(by omega), numM_get cs j (by omega)⟩
  rw [e]; omega
 exact put_laid hm ⟨by rw [hR], by rw [hR]⟩ a sl
/-! ### A code's pattern, put into both -/
theorem patsX_one {f : Nat → Sto → List Int → PtR} {n a : Nat} {S : Sto} {sl : List Int} {Q : PsR} (hQ : patsX f n a S sl = Q) (h : Q.err = 0) : patsX f (n + 1) a S sl = if (f Q.at_ Q.S Q.sl).err ≠ 0 then ⟨Q.cells, (f Q.at_ Q.S Q.sl).err, (f Q.at_ Q.S Q.sl).at_, (f Q.at_ Q.S Q.sl).S, (f Q.at_ Q.S Q.sl).sl⟩ else ⟨Q.cells ++ [(f Q.at_ Q.S Q.sl).cell], 0, (f Q.at_ Q.S Q.sl).at_, (f Q.at_ Q.S Q.sl).S, (f Q.at_ Q.S Q.sl).sl⟩ := by
 show (if (patsX f n a S sl).err ≠ 0 then patsX f n a S sl else if (f (patsX f n a S sl).at_ (patsX f n a S sl).S (patsX f n a S sl).sl).err ≠ 0 then _ else _) = _; rw [hQ, if_neg (by rw [h]; decide)]
theorem map_agree {φ φ' : Nat → Nat} {n : Nat} (h : ∀ x, x < n → φ' x = φ x) {l : List Int} (hl : ∀ a ∈ l, a < (n : Int)) : l.map (mapI φ') = l.map (mapI φ) := by
 apply List.map_congr_left
 intro a ha; unfold mapI
 by_cases h0 : a < 0
 ·rw [if_pos h0, if_pos h0]
 ·rw [if_neg h0, if_neg h0, h _ (by have := hl a ha; omega)]
structure PtE (φ : Nat → Nat) (S T : Sto) (j : Nat) (r r' : PtR) : Prop where
 ex : ∃ φ' : Nat → Nat, (∀ x, x < S.cells.length → φ' x = φ x) ∧ Emb φ' r.S r'.S ∧ r'.cell = mapI φ' r.cell ∧ r'.sl = r.sl.map (mapI φ')
 err : r.err = 0 ∧ r'.err = 0
 at_ : r'.at_ = r.at_
 len : r.S.cells.length ≤ S.cells.length + j ∧ r'.S.cells.length + S.cells.length = T.cells.length + r.S.cells.length
structure PsE (φ : Nat → Nat) (S T : Sto) (j : Nat) (r r' : PsR) : Prop where
 ex : ∃ φ' : Nat → Nat, (∀ x, x < S.cells.length → φ' x = φ x) ∧ Emb φ' r.S r'.S ∧ r'.cells = r.cells.map (mapI φ') ∧ r'.sl = r.sl.map (mapI φ')
 err : r.err = 0 ∧ r'.err = 0
 at_ : r'.at_ = r.at_
 len : r.S.cells.length ≤ S.cells.length + j ∧ r'.S.cells.length + S.cells.length = T.cells.length + r.S.cells.length
theorem plus_lenE (S : Sto) (d : SCell) : (plusS S [d]).cells.length = S.cells.length + 1 := by simp [plusS]
theorem Emb.pats {L : List Ins} {sn N : Nat} (hp : ∀ a j S sl, sk (L.drop a) 1 = some j → j ≤ N → Inv S → SlOk S sl → sl.length = sn → PtOk S sl (a + j) (patX L N a S sl))
 (hf : ∀ a j (φ : Nat → Nat) (S T : Sto) sl, sk (L.drop a) 1 = some j → j ≤ N → Emb φ S T → Inv S → Inv T → SlOk S sl → sl.length = sn → ((S.cells.length + j : Nat) : Int) ≤ S.room → ((T.cells.length + j : Nat) : Int) ≤ T.room → PtE φ S T j (patX L N a S sl) (patX L N a T (sl.map (mapI φ)))) :
 ∀ n a j (φ : Nat → Nat) (S T : Sto) sl, sk (L.drop a) n = some j → j ≤ N → Emb φ S T → Inv S → Inv T → SlOk S sl → sl.length = sn → ((S.cells.length + j : Nat) : Int) ≤ S.room → ((T.cells.length + j : Nat) : Int) ≤ T.room → PsE φ S T j (patsX (patX L N) n a S sl) (patsX (patX L N) n a T (sl.map (mapI φ)))
 | 0, a, j, φ, S, T, sl, h, hj, he, hS, hT, hs, hl, hr, hr' => ⟨⟨φ, fun _ _ => rfl, he, rfl, rfl⟩, ⟨rfl, rfl⟩, rfl, by show S.cells.length ≤ _ ∧ T.cells.length + S.cells.length = _ + S.cells.length; omega⟩
 | n + 1, a, j, φ, S, T, sl, h, hj, he, hS, hT, hs, hl, hr, hr' => by
   obtain ⟨x, y, h1, h2, rfl⟩ := sk_split _ n 1 j h; rw [List.drop_drop] at h2; have ih := Emb.pats hp hf n a x φ S T sl h1 (by omega) he hS hT hs hl (by omega) (by omega); have io := patsX_ok hp n a x S sl h1 (by omega) hS hs hl
   have hsT : SlOk T (sl.map (mapI φ)) := fun b hb => by
    obtain ⟨b0, hb0, rfl⟩ := List.mem_map.1 hb; rcases hs b0 hb0 with e | e
    ·left; rw [e]; rfl
    ·right
     rw [mapI_pos φ e.1]; have := he.lt b0.toNat (by omega); omega
   have io' := patsX_ok hp n a x T (sl.map (mapI φ)) h1 (by omega) hT hsT (by rw [List.length_map]; exact hl); obtain ⟨qa, ql, qc⟩ := io.done ih.err.1; obtain ⟨φ1, f1, f2, f3, f4⟩ := ih.ex; generalize hq : patsX (patX L N) n a S sl = q at *; generalize hq' : patsX (patX L N) n a T (sl.map (mapI φ)) = q' at *; have hat : q'.at_ = q.at_ := ih.at_; have il := ih.len; have hpt := hf q.at_ y φ1 q.S q'.S q.sl (by rw [qa]; exact h2) (by omega) f2 io.go.inv io'.go.inv io.slots (io.len.trans hl) (by rw [io.go.room]; omega) (by rw [io'.go.room]; omega); have hpo := hp q.at_ y q.S q.sl (by rw [qa]; exact h2) (by omega) io.go.inv io.slots (io.len.trans hl); rw [patsX_one hq ih.err.1, patsX_one hq' ih.err.2, hat, f4]; generalize patX L N q.at_ q.S q.sl = r at *; generalize patX L N q.at_ q'.S (q.sl.map (mapI φ1)) = r' at *; obtain ⟨φ2, g1, g2, g3, g4⟩ := hpt.ex; rw [if_neg (by rw [hpt.err.1]; decide), if_neg (by rw [hpt.err.2]; decide)]; have rl := hpt.len; refine ⟨⟨φ2, fun z hz => (g1 z (by have := io.go.len; omega)).trans (f1 z hz), g2, ?_, g4⟩, ⟨rfl, rfl⟩, hpt.at_, ?_⟩
   ·show q'.cells ++ [r'.cell] = (q.cells ++ [r.cell]).map _
    rw [List.map_append, f3, g3, map_agree g1 fun c hc => (qc c hc).2]; rfl
   ·show r.S.cells.length ≤ _ ∧ r'.S.cells.length + _ = _ + r.S.cells.length
    omega
theorem PtE.mono {φ : Nat → Nat} {S T : Sto} {j j' : Nat} {r r' : PtR} (h : PtE φ S T j r r') (hj : j ≤ j') : PtE φ S T j' r r' := ⟨h.ex, h.err, h.at_, by have := h.len; omega⟩
/-! ### What is got -/
def Bis (R : Nat → Nat → Prop) (β : Int → Int) (S T : Sto) : Prop := ∀ x y, R x y → (cellF T y).k = (cellF S x).k ∧ ((cellF S x).k = 1 → ((Tms.fol T y : Nat) : Int) = β (Tms.fol S x : Nat)) ∧ ((cellF S x).k ≠ 1 → (cellF T y).n = (cellF S x).n ∧ (cellF T y).s = (cellF S x).s) ∧ Pw R (cellF S x).args (cellF T y).args
section
variable {R : Nat → Nat → Prop} {β : Int → Int} {S T : Sto}
theorem hFold_bis {g g' : Nat → Option Nat} (hg : ∀ x y, R x y → g' y = g x) : ∀ {l m : List Int} (st : Option Nat), Pw R l m → m.foldl (hStep g') st = l.foldl (hStep g) st
 | [], [], _, _ => rfl
 | [], _ :: _, _, h => h.elim
 | _ :: _, [], _, h => h.elim
 | a :: l, b :: m, st, h => by
   rw [List.foldl_cons, List.foldl_cons]; have e : hStep g' st b = hStep g st a := by unfold hStep; rw [hg _ _ h.1]
   rw [e]; exact hFold_bis hg _ h.2
theorem Bis.hgt (h : Bis R β S T) : ∀ (f x y : Nat), R x y → hgtF T f y = hgtF S f x
 | 0, _, _, _ => rfl
 | f + 1, x, y, hr => by
   unfold hgtF; rw [hFold_bis (Bis.hgt h f) _ (h x y hr).2.2.2]
theorem gFold_bis {g g' : Nat → Nat → Tm × Int × Nat} (hg : ∀ x y n, R x y → g' y n = (renT β (g x n).1, (g x n).2.1, (g x n).2.2)) : ∀ {l m : List Int} (st : List Tm × Int × Nat), Pw R l m → m.foldl (gStep g') (renL β st.1, st.2.1, st.2.2) = (renL β (l.foldl (gStep g) st).1, (l.foldl (gStep g) st).2.1, (l.foldl (gStep g) st).2.2)
 | [], [], _, _ => rfl
 | [], _ :: _, _, h => h.elim
 | _ :: _, [], _, h => h.elim
 | a :: l, b :: m, st, h => by
   rw [List.foldl_cons, List.foldl_cons]
   have e : gStep g' (renL β st.1, st.2.1, st.2.2) b = (renL β (gStep g st a).1, (gStep g st a).2.1, (gStep g st a).2.2) := by
    unfold gStep; dsimp only; rw [hg _ _ _ h.1]; dsimp only
    by_cases h0 : st.2.1 ≠ 0
    ·rw [if_pos h0, if_pos h0]
    ·rw [if_neg h0, if_neg h0]
     by_cases h1 : (g a.toNat st.2.2).2.1 = 0
     ·rw [if_pos h1, if_pos h1]
      simp [renL_map]
     ·rw [if_neg h1, if_neg h1]
   rw [e]; exact gFold_bis hg _ h.2
theorem ren_zero (β : Int → Int) : renT β zeroTm = zeroTm := by unfold zeroTm; simp [renT, renL]
theorem Bis.getG (h : Bis R β S T) : ∀ (f x y n : Nat), R x y → Tms.getG T f y n = (renT β (Tms.getG S f x n).1, (Tms.getG S f x n).2.1, (Tms.getG S f x n).2.2)
 | 0, x, y, n, hr => by
   unfold Tms.getG; rw [ren_zero]
 | f + 1, x, y, n, hr => by
   obtain ⟨h1, h2, h3, h4⟩ := h x y hr; have hf := gFold_bis (g := Tms.getG S f) (g' := Tms.getG T f) (Bis.getG h f) ([], 0, n + 1) h4; have e0 : (renL β ([] : List Tm), (0 : Int), n + 1) = ([], 0, n + 1) := by simp [renL]
   dsimp only at hf; rw [e0] at hf; unfold Tms.getG; rw [hf]; dsimp only
   by_cases hn : 20000 < n + 1
   ·rw [if_pos hn, if_pos hn, ren_zero]
   ·rw [if_neg hn, if_neg hn]
    by_cases he : ((cellF S x).args.foldl (gStep (Tms.getG S f)) ([], 0, n + 1)).2.1 ≠ 0
    ·rw [if_pos he, if_pos he, ren_zero]
    ·rw [if_neg he, if_neg he]
     congr 1
     unfold withArgs shellC
     by_cases hk : (cellF S x).k = 1
     ·rw [if_pos (h1.trans hk), if_pos hk]
      simp only [renT, Tm.k, Tm.n, Tm.s, if_true, h2 hk]
     ·rw [if_neg (by rw [h1]; exact hk), if_neg hk]
      obtain ⟨g1, g2⟩ := h3 hk; simp only [Tm.k, Tm.n, Tm.s, h1, g1, g2]; unfold renT; rw [if_neg hk]
theorem Bis.get (h : Bis R β S T) {x y : Nat} (hr : R x y) : getT T y = renT β (getT S x) ∧ getE T y = getE S x := by
 have hg := h.getG 2000 x y 0 hr; have hh := h.hgt 2000 x y hr; constructor
 ·unfold getT
  rw [hg]; dsimp only
  split
  ·rfl
  ·exact (ren_zero β).symm
 ·unfold getE
  rw [hg, hh]
end
theorem Pw.of_map {φ : Nat → Nat} {R : Nat → Nat → Prop} : ∀ {l : List Int}, (∀ a ∈ l, 0 ≤ a ∧ R a.toNat (φ a.toNat)) → Pw R l (l.map (mapI φ))
 | [], _ => trivial
 | a :: l, h => ⟨by rw [mapI_toNat φ (h a (List.mem_cons_self ..)).1]; exact (h a (List.mem_cons_self ..)).2, Pw.of_map fun b hb => h b (List.mem_cons_of_mem _ hb)⟩
theorem Emb.bis {φ : Nat → Nat} {S T : Sto} (h : Emb φ S T) (hS : Inv S) : Bis (fun x y => x < S.cells.length ∧ y = φ x) (mapI φ) S T := by
 rintro x y ⟨hx, rfl⟩; obtain ⟨h1, h2, h3, h4⟩ := h.root hS hx; refine ⟨h1, fun _ => by rw [h.fol hS hx, mapI_nat], fun _ => ⟨h2, h3⟩, ?_⟩; rw [h4]; obtain ⟨la, ca, -⟩ := hS.root hx; refine Pw.of_map fun a ha => ?_
 rw [← ca] at ha; have := (hS.cell _ _ (List.getElem?_eq_getElem la)).args a ha; exact ⟨this.1, by omega, rfl⟩
theorem Emb.get {φ : Nat → Nat} {S T : Sto} (h : Emb φ S T) (hS : Inv S) {x : Nat} (hx : x < S.cells.length) : getT T (φ x) = renT (mapI φ) (getT S x) ∧ getE T (φ x) = getE S x := (h.bis hS).get ⟨hx, rfl⟩
end Go.Proofs.Ytcbijikalfodnaa.Tms
namespace Go.Proofs.Ytcbijikalfodnaa.Tms
open Go Go.RowKit Go.Proofs.Ytcbijikalfodnaa.Reg Go.Proofs.Ytcbijikalfodnaa.Rws Go.Proofs.Ytcbijikalfodnaa.Maps
mutual
def vcT : Tm → List Int
 | .mk k n _ a => if k = 1 then n :: vcL a else vcL a
def vcL : List Tm → List Int
 | [] => []
 | t :: l => vcT t ++ vcL l
end
theorem place_mapv {φ : Int → Int} {V : Int → Prop} (hφ : ∀ x y, V x → V y → φ x = φ y → x = y) : ∀ (S : List Int) (n : Int), (∀ x ∈ S, V x) → V n → place (S.map φ) (φ n) = place S n
 | [], n, _, _ => rfl
 | x :: S, n, hS, hn => by
   have ih := place_mapv hφ S n (fun y hy => hS y (List.mem_cons_of_mem _ hy)) hn; simp only [List.map_cons, place, ih]
   by_cases h : n = x
   ·rw [if_pos h, if_pos (by rw [h])]
   ·rw [if_neg h, if_neg fun e => h (hφ n x hn (hS x (by simp)) e)]
theorem renL_lenv (φ : Int → Int) : ∀ l : List Tm, (renL φ l).length = l.length
 | [] => by simp [renL]
 | t :: l => by simp [renL, renL_lenv φ l]
mutual
theorem vcT_ren (φ : Int → Int) : ∀ t : Tm, vcT (renT φ t) = (vcT t).map φ
 | .mk k n s a => by
   have h := vcL_ren φ a
   by_cases k1 : k = 1
   ·simp [renT, vcT, k1, h]
   ·simp [renT, vcT, k1, h]
theorem vcL_ren (φ : Int → Int) : ∀ l : List Tm, vcL (renL φ l) = (vcL l).map φ
 | [] => by simp [renL, vcL]
 | t :: l => by simp [renL, vcL, vcT_ren φ t, vcL_ren φ l]
end
mutual
theorem mayT_renv (φ : Int → Int) (hφ : ∀ n, 0 ≤ n → 0 ≤ φ n) : ∀ t : Tm, mayT t = true → mayT (renT φ t) = true
 | .mk k n s a, h => by
   simp only [mayT, Bool.and_eq_true] at h; have ha := mayTL_renv φ hφ a h.2; simp only [renT, mayT, Bool.and_eq_true, renL_lenv]; refine ⟨?_, ha⟩
   by_cases k1 : k = 1
   ·subst k1
    have := h.1; simp only [mayB, if_true, Bool.and_eq_true] at this ⊢; exact ⟨by simpa using hφ n (by simpa using this.1), this.2⟩
   ·simp only [if_neg k1]; exact h.1
theorem mayTL_renv (φ : Int → Int) (hφ : ∀ n, 0 ≤ n → 0 ≤ φ n) : ∀ l : List Tm, mayTL l = true → mayTL (renL φ l) = true
 | [], _ => by simp [renL, mayTL]
 | t :: l, h => by
   simp only [mayTL, Bool.and_eq_true] at h; simp only [renL, mayTL, Bool.and_eq_true]; exact ⟨mayT_renv φ hφ t h.1, mayTL_renv φ hφ l h.2⟩
end
mutual
theorem flat_occv : ∀ (t : Tm) (L : List Int), (flatT t).foldl takeL L = (vcT t).foldl numL L
 | .mk k n s a, L => by
   simp only [flatT, List.foldl_cons, vcT]; rw [flat_occLv a]; unfold takeL
   by_cases k1 : k = 1
   ·simp [k1, Tm.k, Tm.n]
   ·simp [k1, Tm.k]
theorem flat_occLv : ∀ (l : List Tm) (L : List Int), (flatL l).foldl takeL L = (vcL l).foldl numL L
 | [], L => by simp [flatL, vcL]
 | t :: l, L => by simp only [flatL, vcL, List.foldl_append, flat_occv t, flat_occLv l]
end
theorem varsT_occv (t : Tm) : varsT t = (vcT t).foldl numL [] := by rw [← varsT_flat]; exact flat_occv t []
mutual
theorem renT_compv (f g : Int → Int) : ∀ t : Tm, renT f (renT g t) = renT (fun n => f (g n)) t
 | .mk k n s a => by
   have := renL_compv f g a
   by_cases k1 : k = 1 <;> simp [renT, k1, this]
theorem renL_compv (f g : Int → Int) : ∀ l : List Tm, renL f (renL g l) = renL (fun n => f (g n)) l
 | [] => by simp [renL]
 | t :: l => by simp [renL, renT_compv f g t, renL_compv f g l]
end
mutual
theorem renT_congrv {f g : Int → Int} : ∀ t : Tm, (∀ n ∈ vcT t, f n = g n) → renT f t = renT g t
 | .mk k n s a, h => by
   by_cases k1 : k = 1
   ·have h1 := h n (by simp [vcT, k1])
    have := renL_congrv a fun m hm => h m (by simp [vcT, k1, hm])
    simp [renT, k1, this, h1]
   ·have := renL_congrv a fun m hm => h m (by simp [vcT, k1, hm])
    simp [renT, k1, this]
theorem renL_congrv {f g : Int → Int} : ∀ l : List Tm, (∀ n ∈ vcL l, f n = g n) → renL f l = renL g l
 | [], _ => by simp [renL]
 | t :: l, h => by
   rw [renL, renL, renT_congrv t fun n hn => h n (by simp [vcL, hn]), renL_congrv l fun n hn => h n (by simp [vcL, hn])]
end
theorem fold_mapv {φ : Int → Int} {V : Int → Prop} (hφ : ∀ x y, V x → V y → φ x = φ y → x = y) : ∀ (D L : List Int), (∀ n ∈ D, V n) → (∀ n ∈ L, V n) → (D.map φ).foldl numL (L.map φ) = (D.foldl numL L).map φ ∧ ∀ n ∈ D.foldl numL L, V n
 | [], L, _, hL => ⟨rfl, hL⟩
 | n :: D, L, hD, hL => by
   have hn := hD n (by simp)
   have e : numL (L.map φ) (φ n) = (numL L n).map φ := by
    unfold numL; rw [place_mapv hφ L n hL hn]
    split <;> simp
   have hV : ∀ m ∈ numL L n, V m := by
    unfold numL; intro m hm
    split at hm
    ·exact hL m hm
    ·rcases List.mem_append.1 hm with h | h
     ·exact hL m h
     ·rw [List.mem_singleton.1 h]; exact hn
   simp only [List.map_cons, List.foldl_cons, e]; exact fold_mapv hφ D (numL L n) (fun m hm => hD m (by simp [hm])) hV
theorem numT_renv {φ : Int → Int} (t : Tm) (hinj : ∀ m n, m ∈ vcT t → n ∈ vcT t → φ m = φ n → m = n) : numT (renT φ t) = numT t := by
 have hv := fold_mapv (φ := φ) (V := fun n => n ∈ vcT t) (fun x y a b e => hinj x y a b e) (vcT t) [] (fun n hn => hn) (by simp); have e : varsT (renT φ t) = (varsT t).map φ := by rw [varsT_occv, varsT_occv, vcT_ren]; exact hv.1
 unfold numT; rw [e, renT_compv]; refine renT_congrv t fun n hn => ?_
 have hp := place_mapv (φ := φ) (V := fun n => n ∈ vcT t) (fun x y a b e => hinj x y a b e) (varsT t) n (by rw [varsT_occv]; exact hv.2) hn; simp only [numP, hp, List.length_map]
def FInj (F : List (Int × Int)) (b : Nat) : Prop := (∀ m n a, mget F m = some a → mget F n = some a → m = n) ∧ ∀ m a, mget F m = some a → 0 ≤ a ∧ a < b
theorem FInj.nil (b : Nat) : FInj [] b := ⟨fun m n a h => by simp [mget] at h, fun m a h => by simp [mget] at h⟩
theorem FInj.mono {F : List (Int × Int)} {b c : Nat} (h : FInj F b) (hb : b ≤ c) : FInj F c := ⟨h.1, fun m a e => by have := h.2 m a e; omega⟩
theorem mget_appv (n v : Int) : ∀ (F : List (Int × Int)) (m : Int), mget (F ++ [(n, v)]) m = (mget F m).or (if m = n then some v else none)
 | [], m => by simp [mget]
 | p :: F, m => by
   simp only [List.cons_append, mget]
   split
   ·rfl
   ·exact mget_appv n v F m
theorem mget_snoc_inv {n v : Int} {F : List (Int × Int)} {m a : Int} (h : mget (F ++ [(n, v)]) m = some a) : mget F m = some a ∨ (m = n ∧ a = v ∧ mget F m = none) := by
 rw [mget_appv] at h; rcases hx : mget F m with _ | x
 ·rw [hx, Option.none_or] at h
  by_cases hm : m = n
  ·rw [if_pos hm] at h
   exact .inr ⟨hm, (Option.some.inj h).symm, rfl⟩
  ·rw [if_neg hm] at h
   cases h
 ·rw [hx, Option.some_or] at h
  exact .inl h
theorem mayv_leaf {k n : Int} {s : ByteArray} {a : List Tm} (h : mayT (.mk k n s a) = true) (k4 : k ≠ 4) : a = [] := by
 simp only [mayT, Bool.and_eq_true] at h; have h1 := h.1; unfold mayB at h1
 by_cases k1 : k = 1
 ·rw [if_pos k1] at h1
  simp only [Bool.and_eq_true, decide_eq_true_eq] at h1; exact List.eq_nil_of_length_eq_zero h1.2.2
 ·rw [if_neg k1] at h1
  by_cases k2 : k = 2
  ·rw [if_pos k2] at h1
   simp only [Bool.and_eq_true, decide_eq_true_eq] at h1; exact List.eq_nil_of_length_eq_zero h1.2
  ·rw [if_neg k2] at h1
   by_cases k3 : k = 3
   ·rw [if_pos k3] at h1
    simp only [Bool.and_eq_true, decide_eq_true_eq] at h1; exact List.eq_nil_of_length_eq_zero h1.2.2
   ·rw [if_neg k3, if_neg k4] at h1
    cases h1
theorem FInj.snoc {F : List (Int × Int)} {b : Nat} (h : FInj F b) (n : Int) : FInj (F ++ [(n, (b : Int))]) (b + 1) := by
 refine ⟨fun m k a h1 h2 => ?_, fun m a h1 => ?_⟩
 ·rcases mget_snoc_inv h1 with h1 | ⟨rfl, rfl, -⟩
  ·rcases mget_snoc_inv h2 with h2 | ⟨e1, e2, -⟩
   ·exact h.1 m k a h1 h2
   ·have := h.2 _ _ h1; omega
  ·rcases mget_snoc_inv h2 with h2 | ⟨e1, -, -⟩
   ·have := h.2 _ _ h2; omega
   ·exact e1.symm
 ·rcases mget_snoc_inv h1 with h1 | ⟨-, rfl, -⟩
  ·have := h.2 _ _ h1; omega
  ·omega
mutual
theorem put_inj {T0 : Int} : ∀ (t : Tm) (b : Nat) (F : List (Int × Int)), FInj F b → FInj (putT (fun n => mget [] n) T0 b F t).2.2 (b + (putT (fun n => mget [] n) T0 b F t).2.1.length) ∧ ∀ n ∈ vcT t, mayT t = true → ∃ v, mget (putT (fun n => mget [] n) T0 b F t).2.2 n = some v
 | .mk k n s a, b, F, h => by
   by_cases k1 : k = 1
   ·rw [putT_var (t := .mk k n s a) k1]
    simp only [Tm.n]; subst k1
    have hv : ∀ m ∈ vcT (.mk 1 n s a), mayT (.mk 1 n s a) = true → m = n := fun m hm hmay => by
     rw [mayv_leaf hmay (by decide)] at hm
     simpa [vcT, vcL] using hm
    cases h2 : mget F n with
    | some x => exact ⟨by simpa [mget, h2] using h, fun m hm hmay => by rw [hv m hm hmay]; exact ⟨x, by simpa [mget] using h2⟩⟩
    | none => exact ⟨by simpa [mget] using h.snoc n, fun m hm hmay => by rw [hv m hm hmay]; exact ⟨b, by simpa [mget] using mget_last h2⟩⟩
   ·by_cases k4 : k = 4
    ·rw [putT_comp (t := .mk k n s a) k4]
     have ih := put_injL (T0 := T0) a (b + 1) F (h.mono (Nat.le_succ b)); refine ⟨?_, fun m hm hmay => ?_⟩
     ·have := ih.1
      simp only [Tm.args, List.length_cons]; rw [show b + ((putL (fun n => mget [] n) T0 (b + 1) F a).2.1.length + 1) = b + 1 + (putL (fun n => mget [] n) T0 (b + 1) F a).2.1.length by omega]; exact this
     ·simp only [mayT, Bool.and_eq_true] at hmay
      simp only [vcT, if_neg k1] at hm; exact ih.2 m hm hmay.2
    ·rw [putT_leaf (t := .mk k n s a) k1 k4]
     refine ⟨h.mono (by omega), fun m hm hmay => ?_⟩; rw [mayv_leaf hmay k4] at hm
     simp [vcT, vcL, k1] at hm
theorem put_injL {T0 : Int} : ∀ (l : List Tm) (b : Nat) (F : List (Int × Int)), FInj F b → FInj (putL (fun n => mget [] n) T0 b F l).2.2 (b + (putL (fun n => mget [] n) T0 b F l).2.1.length) ∧ ∀ n ∈ vcL l, mayTL l = true → ∃ v, mget (putL (fun n => mget [] n) T0 b F l).2.2 n = some v
 | [], b, F, h => by
   simp only [putL]; exact ⟨by simpa using h, fun n hn => by simp [vcL] at hn⟩
 | t :: l, b, F, h => by
   have i1 := put_inj (T0 := T0) t b F h; have i2 := put_injL (T0 := T0) l _ _ i1.1; simp only [putL]; refine ⟨?_, fun n hn hmay => ?_⟩
   ·rw [List.length_append, ← Nat.add_assoc]
    exact i2.1
   ·simp only [mayTL, Bool.and_eq_true] at hmay
    simp only [vcL, List.mem_append] at hn; rcases hn with hn | hn
    ·obtain ⟨v, hv⟩ := i1.2 n hn hmay.1
     exact ⟨v, put_extL l _ _ n v hv⟩
    ·exact i2.2 n hn hmay.2
end
mutual
theorem sub_ren {φ : Int → Int} : ∀ t : Tm, mayT t = true → subT (fun n => .mk 1 (φ n) ⟨#[]⟩ []) t = renT φ t
 | .mk k n s a, h => by
   by_cases k1 : k = 1
   ·subst k1
    have ha := mayv_leaf h (by decide); subst ha; simp only [mayT, Bool.and_eq_true, mayB, if_true] at h
    have hs : s = ⟨#[]⟩ := by
     have := h.1.2.1; cases s with
     | mk d =>
       simp only [List.isEmpty_iff] at this; rw [ByteArray.toList_eq] at this
       congr 1
       exact Array.toList_inj.1 this
    simp [subT, renT, renL, hs]
   ·simp only [mayT, Bool.and_eq_true] at h
    simp only [subT, renT, if_neg k1, sub_renL a h.2]
theorem sub_renL {φ : Int → Int} : ∀ l : List Tm, mayTL l = true → subL (fun n => .mk 1 (φ n) ⟨#[]⟩ []) l = renL φ l
 | [], _ => by simp [subL, renL]
 | t :: l, h => by
   simp only [mayTL, Bool.and_eq_true] at h; simp only [subL, renL, sub_ren t h.1, sub_renL l h.2]
end
end Go.Proofs.Ytcbijikalfodnaa.Tms
namespace Go.Proofs.Ytcbijikalfodnaa.Tms
open Go Go.RowKit Go.Proofs.Ytcbijikalfodnaa.Reg Go.Proofs.Ytcbijikalfodnaa.Rws Go.Proofs.Ytcbijikalfodnaa.Maps
open Go.Proofs.Ytcbijikalfodnaa.Cod (Ins Cod sk check slotsN)
theorem Ext.room {S T : Sto} (h : Ext S T) : T.room = S.room := by
 induction h with
 | refl _ => rfl
 | step v t h hI hv ht hvl htl hk hne ih => exact ih
theorem matX_consE {f : Nat → Sto → List Int → PtR} {x : Int} {xs : List Int} {a : Nat} {S : Sto} {sl : List Int} {k : Nat} {r : PtR} (hr : f a S sl = r) (he : r.err = 0) : matX f (x :: xs) a S sl k =
 if (uniK false k r.S [(r.cell.toNat, x.toNat)]).1 = some true then matX f xs r.at_ (uniK false k r.S [(r.cell.toNat, x.toNat)]).2.1 r.sl (uniK false k r.S [(r.cell.toNat, x.toNat)]).2.2
 else ⟨false, hasE (uniK false k r.S [(r.cell.toNat, x.toNat)]).1, (uniK false k r.S [(r.cell.toNat, x.toNat)]).2.1, r.sl⟩ := by
 rw [matX_cons hr, if_neg (by rw [he]; decide)]
structure MtE (φ : Nat → Nat) (S T : Sto) (j : Nat) (r r' : MtR) : Prop where
 ok : r'.ok = r.ok
 err : r'.err = r.err
 ex : ∃ φ' : Nat → Nat, (∀ x, x < S.cells.length → φ' x = φ x) ∧ Emb φ' r.S r'.S ∧ r'.sl = r.sl.map (mapI φ')
 len : r.S.cells.length ≤ S.cells.length + j ∧ r'.S.cells.length + S.cells.length = T.cells.length + r.S.cells.length
 room : r.S.room = S.room ∧ r'.S.room = T.room
theorem mapI_id (a : Int) : mapI (fun x => x) a = a := by
 unfold mapI
 split
 ·rfl
 ·show ((a.toNat : Nat) : Int) = a
  omega
theorem map_mapI_id (l : List Int) : l.map (mapI fun x => x) = l := by
 rw [List.map_congr_left fun a _ => mapI_id a]; exact List.map_id' l
theorem Emb.plus (S : Sto) (l : List SCell) : Emb (fun x => x) S (plusS S l) := by
 refine ⟨fun x hx => by simp only [plusS, List.length_append]; omega, fun x y _ _ e => e, fun x c hc => ⟨c, ?_, rfl, rfl, rfl, (map_mapI_id _).symm, (mapI_id _).symm⟩⟩; have hx := (List.getElem?_eq_some_iff.1 hc).1; simp only [plusS]; rw [List.getElem?_append_left hx]; exact hc
theorem upd_inj {φ : Nat → Nat} {n m : Nat} (hl : ∀ x, x < n → φ x < m) (hi : ∀ x y, x < n → y < n → φ x = φ y → x = y) (x y : Nat) (e : upd φ n m x = upd φ n m y) : x = y := by
 unfold upd at e
 by_cases hx : x < n
 ·by_cases hy : y < n
  ·rw [if_pos hx, if_pos hy] at e; exact hi x y hx hy e
  ·rw [if_pos hx, if_neg hy] at e; have := hl x hx; omega
 ·by_cases hy : y < n
  ·rw [if_neg hx, if_pos hy] at e; have := hl y hy; omega
  ·rw [if_neg hx, if_neg hy] at e; omega
theorem mapI_inj {φ : Nat → Nat} (h : ∀ x y, φ x = φ y → x = y) (a b : Int) (e : mapI φ a = mapI φ b) : a = b := by
 unfold mapI at e
 split at e <;> split at e
 ·exact e
 ·omega
 ·omega
 ·have := h _ _ (by exact_mod_cast e : φ a.toNat = φ b.toNat); omega
theorem Emb.far {φ ψ : Nat → Nat} {S T : Sto} (h : Emb φ S T) (hS : Inv S) (hp : ∀ x, x < S.cells.length → ψ x = φ x) : Emb ψ S T := by
 refine ⟨fun x hx => by rw [hp x hx]; exact h.lt x hx, fun x y hx hy e => h.inj x y hx hy (by rw [← hp x hx, ← hp y hy]; exact e), fun x c hc => ?_⟩; have hx := (List.getElem?_eq_some_iff.1 hc).1; obtain ⟨d, h1, h2, h3, h4, h5, h6⟩ := h.cell x c hc; have hi := hS.cell x c hc; refine ⟨d, by rw [hp x hx]; exact h1, h2, h3, h4, ?_, ?_⟩
 ·rw [h5]; exact (map_agree hp fun a ha => (hi.args a ha).2).symm
 ·rw [h6]
  unfold mapI
  split
  ·rfl
  ·have := hi.lk
   rw [hp _ (by omega)]
theorem Emb.num {φ : Nat → Nat} {S T : Sto} (h : Emb φ S T) (hS : Inv S) {x : Nat} (hx : x < S.cells.length) : numT (getT T (φ x)) = numT (getT S x) ∧ getE T (φ x) = getE S x := by
 have hp : ∀ y, y < S.cells.length → upd φ S.cells.length T.cells.length y = φ y := fun y hy => upd_lt hy
 obtain ⟨h1, h2⟩ := (h.far hS hp).get hS hx; rw [hp x hx] at h1 h2; refine ⟨?_, h2⟩; rw [h1]; exact numT_renv _ fun m n _ _ e => mapI_inj (fun a b e => upd_inj h.lt h.inj a b e) m n e
noncomputable def rndB (c : Cod) (R : MtR) : PtR := patX c.l c.l.length c.body.toNat R.S R.sl
noncomputable def rndC (c : Cod) (R : MtR) : PtR := patX c.l c.l.length c.body.toNat (rndB c R).S R.sl
structure RndOk (c : Cod) (S : Sto) (R : MtR) : Prop where
 inv : Inv R.S
 slots : areB R.S R.sl true = true
 len : (R.sl.length : Int) = c.slots
 b0 : (rndB c R).err = 0 ∧ 0 ≤ (rndB c R).cell ∧ ((rndB c R).cell < (rndC c R).S.cells.length)
 bi : Inv (rndB c R).S
 bs : areB (rndB c R).S R.sl true = true
 c0 : (rndC c R).err = 0 ∧ 0 ≤ (rndC c R).cell ∧ ((rndC c R).cell < (rndC c R).S.cells.length)
 ci : Inv (rndC c R).S
 getE : getE (rndC c R).S (rndC c R).cell.toNat = getE (rndC c R).S (rndB c R).cell.toNat
 num : numT (getT (rndC c R).S (rndC c R).cell.toNat) = numT (getT (rndC c R).S (rndB c R).cell.toNat)
 undo : ∃ l, undoS (rndC c R).S 0 = plusS S l ∧ Inv (plusS S l) ∧ S.cells.length + l.length ≤ S.cells.length + 600
theorem are_slots {S : Sto} {sl : List Int} (h : SlOk S sl) : areB S sl true = true := by
 unfold areB; rw [List.all_eq_true]; intro x hx; rcases h x hx with e | e
 ·simp [e]
 ·simp [e.1, e.2]
section
variable {c : Cod} {a j s : Nat} (hco : CodOk c a j s) (hL : c.l.length ≤ 200) {args : List Int} (hal : (args.length : Int) = c.args)
include hco hL hal
end
end Go.Proofs.Ytcbijikalfodnaa.Tms
namespace Go.Proofs.Ytcbijikalfodnaa.Tms
open Go Go.RowKit Go.Proofs.Ytcbijikalfodnaa.Reg
structure RrCtx (w : World) (k n : Int) (s : ByteArray) (v : Value) (wr : World) : Prop where
 res : wr.heap[w.heap.size + 1]? = some (.cells #[.int .i64 0, .int .i64 0, .string ⟨#[]⟩, .slice none 0 0] 49 (0, 0))
 box : wr.heap[w.heap.size + 2]? = some (.cells #[.int .i64 k, .int .i64 n, .string s, v] 49 (0, 0))
 bel : Below w.heap.size w wr
 big : w.heap.size + 3 ≤ wr.heap.size
theorem RrCtx.on {w : World} {k n : Int} {s : ByteArray} {v : Value} {wr w' : World} (h : RrCtx w k n s v wr) (hb : Below (w.heap.size + 3) wr w') : RrCtx w k n s v w' :=
 ⟨(hb.block _ (by omega)).trans h.res, (hb.block _ (by omega)).trans h.box, h.bel.trans (hb.mono (by omega)), Nat.le_trans h.big hb.size⟩
theorem RrCtx.store {w : World} {k n : Int} {s : ByteArray} {v v' : Value} {wr : World} (h : RrCtx w k n s v wr) : RrCtx w k n s v' (wr.setCell ⟨w.heap.size + 2, 3, none⟩ v') := by
 have hbel : Below w.heap.size w (wr.setCell ⟨w.heap.size + 2, 3, none⟩ v') := h.bel.setCell (show w.heap.size ≤ w.heap.size + 2 by omega) _; have ne := fun (k : Nat) (hk : k ≠ w.heap.size + 2) => Below.heap_setCell wr ⟨w.heap.size + 2, 3, none⟩ v' k hk
 refine ⟨(ne _ (by omega)).trans h.res, ?_, hbel, by simpa [World.setCell] using h.big⟩; have := heap_setCell_same wr (w.heap.size + 2) 3 _ _ v' h.box
 simpa using this
end Go.Proofs.Ytcbijikalfodnaa.Tms
