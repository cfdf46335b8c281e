
/-
  Layer 16: textOf, walked.
  Layer 16: numberOf, walked.
-/
import Derived.Test.YtkhchmgdaolojaaDoorTxb
import Derived.Test.YtkhchmgdaolojaaDoorItm
import Derived.Test.YtkhchmgdaolojaaDoorNuP
namespace Go.Proofs.YtkhchmgdaolojaaDoor.Tms
open Go Go.RowKit Go.Proofs.YtkhchmgdaolojaaDoor.Reg Go.Proofs.YtkhchmgdaolojaaDoor.Rws Go.Proofs.YtkhchmgdaolojaaDoor.Maps Go.Instr
set_option linter.unusedVariables false
set_option linter.unusedSimpArgs false

def zeroT0 : Tm := .mk 0 0 ⟨#[]⟩ []
/-- what is wrong with an item of a text -/
def badItem (codes : Bool) (t : Tm) : Option Tm :=
  if t.k = 1 then some (formalE 12 ⟨#[]⟩ zeroT0)
  else if codes = true then (if t.k = 2 then (if t.n < 0 ∨ 255 < t.n then some (formalE 3 (⟨#[99, 104, 97, 114, 97, 99, 116, 101, 114, 95, 99, 111, 100, 101]⟩ : ByteArray) zeroT0) else none) else some (formalE 13 (⟨#[105, 110, 116, 101, 103, 101, 114]⟩ : ByteArray) t))
  else if t.k = 3 ∧ t.s.size = 1 then none else some (formalE 13 (⟨#[99, 104, 97, 114, 97, 99, 116, 101, 114]⟩ : ByteArray) t)
def byteT (codes : Bool) (t : Tm) : UInt8 := if codes = true then UInt8.ofNat t.n.toNat else t.s.data.toList.headD 0
/-- a list's text, or what is wrong with it -/
def textT (codes : Bool) (l : Tm) : Option Tm × List UInt8 :=
  match (itemsT l).1.findSome? (badItem codes) with
  | some b => (some b, [])
  | none => if (itemsT l).2.k = 1 then (some (formalE 12 ⟨#[]⟩ zeroT0), []) else if (itemsT l).2.k = 3 ∧ (itemsT l).2.s.toList = [91, 93] then (none, (itemsT l).1.map (byteT codes)) else (some (formalE 13 (⟨#[108, 105, 115, 116]⟩ : ByteArray) l), [])
structure ToRel (P : Nat → Prop) (codes : Bool) (L U : Tm) (us : List Tm) (w : World) (B g7 : Nat) (v1 : Value) (v8 v18 : Value) (wr : World) : Prop where
  ex : ∃ i : Nat, i ≤ us.length ∧ v18 = .int .i64 i ∧ (∀ j (h : j < us.length), j < i → badItem codes us[j] = none) ∧ Byt.OwnB wr B v8 ((us.take i).map (byteT codes))
  res : wr.heap[w.heap.size + 1]? = some (.cells #[.int .i64 0, .int .i64 0, .string ⟨#[]⟩, .slice none 0 0] 28 (0, 0))
  lst : ∃ a c, wr.heap[w.heap.size]? = some (.cells #[.int .i64 L.k, .int .i64 L.n, .string L.s, .slice a L.args.length c] 28 (0, 0)) ∧ IsTm wr (fun b => P b ∧ b < w.heap.size) (.agg #[.int .i64 L.k, .int .i64 L.n, .string L.s, .slice a L.args.length c]) L
  tl : ∃ a c, wr.heap[g7]? = some (.cells #[.int .i64 U.k, .int .i64 U.n, .string U.s, .slice a U.args.length c] 28 (0, 0))
  sl : IsSl wr (fun b => w.heap.size + 2 ≤ b ∧ b < B) v1 us
  bel : Below w.heap.size w wr
  lo : w.heap.size + 2 ≤ B
  tlt : B ≤ wr.heap.size
theorem ToRel.next {P : Nat → Prop} {codes : Bool} {L U : Tm} {us : List Tm} {w wr wx w9 : World} {B g7 i : Nat} {v1 v8 v18 v' : Value} {T : Tm} (h : ToRel P codes L U us w B g7 v1 v8 v18 wr) (hg : g7 < B) (hin : i < us.length) (hbad : ∀ j (h : j < us.length), j < i → badItem codes us[j] = none) (hT : T = us[i]) (hn : badItem codes T = none)
    (hw : Below wr.heap.size wr wx) (ho : Byt.OwnB w9 B v' ((us.take i).map (byteT codes) ++ [byteT codes T])) (hb : Below B wx w9) : ToRel P codes L U us w B g7 v1 v' (.int .i64 ((i + 1 : Nat) : Int)) w9 := by
  have hlow := h.lo
  have htl := h.tlt
  have hk : ∀ b, b < B → w9.heap[b]? = wr.heap[b]? := fun b hb' => (hb.block b hb').trans (hw.block b (by omega))
  have hsz : wr.heap.size ≤ w9.heap.size := Nat.le_trans hw.size hb.size
  obtain ⟨a1, c1, r1, i1⟩ := h.lst
  obtain ⟨a2, c2, r2⟩ := h.tl
  have hws := h.bel.size
  exact
    { ex := ⟨i + 1, by omega, rfl, fun j hj hji => by
        rcases Nat.lt_or_ge j i with h1 | h1
        · exact hbad j hj h1
        · obtain rfl : j = i := by omega
          rw [← hT]; exact hn, by
        have e : (us.take (i + 1)).map (byteT codes) = (us.take i).map (byteT codes) ++ [byteT codes T] := by rw [List.take_succ_eq_append_getElem hin, List.map_append, hT]; rfl
        rw [e]; exact ho⟩
      res := (hk _ (by omega)).trans h.res
      lst := ⟨a1, c1, (hk _ (by omega)).trans r1, i1.imp (fun _ h => h) fun b hb' _ => hk b (by have := hb'.2; omega)⟩
      tl := ⟨a2, c2, (hk _ hg).trans r2⟩
      sl := h.sl.imp (fun _ h => h) fun b hb' _ => hk b hb'.2
      bel := h.bel.trans ⟨hb.os.trans hw.os, hb.tape.trans hw.tape, hb.output.trans hw.output, by omega, fun b hb' => hk b (by omega)⟩
      lo := hlow
      tlt := by omega }
theorem byte0 {s : ByteArray} (h : s.size = 1) : s.data.toList.headD 0 = s[0]'(by omega) := by
  obtain ⟨d⟩ := s
  obtain ⟨l⟩ := d
  cases l with
  | nil => exact absurd h (by decide)
  | cons x l => rfl
/-- what textOf answers -/
def TxPost (P : Nat → Prop) (r : Option Tm × List UInt8) (w : World) (e : Ending) (w' : World) : Prop := ∃ v, e = .returned (.tuple #[.string ⟨r.2.toArray⟩, v]) ∧ IsTm w' (fun b => w.heap.size + 2 ≤ b ∨ P b ∧ b < w.heap.size) v (r.1.getD zeroT0) ∧ Below w.heap.size w w'
theorem find_bad {codes : Bool} {us : List Tm} {i : Nat} (h : i < us.length) (hb : ∀ j (h : j < us.length), j < i → badItem codes us[j] = none) {b : Tm} (hi : badItem codes us[i] = some b) : us.findSome? (badItem codes) = some b := by
  induction us generalizing i with
  | nil => simp at h
  | cons x us ih =>
    cases i with
    | zero => simp only [List.getElem_cons_zero] at hi; simp [List.findSome?_cons, hi]
    | succ i =>
      have h0 := hb 0 (by simp) (by omega)
      simp only [List.getElem_cons_zero] at h0
      simp only [List.findSome?_cons, h0]
      exact ih (by simpa using h) (fun j hj hji => by have := hb (j + 1) (by simpa using hj) (by omega); simpa using this) (by simpa using hi)
theorem find_none {codes : Bool} {us : List Tm} (hb : ∀ j (h : j < us.length), badItem codes us[j] = none) : us.findSome? (badItem codes) = none := by
  rw [List.findSome?_eq_none_iff]
  intro x hx
  obtain ⟨j, hj, rfl⟩ := List.getElem_of_mem hx
  exact hb j hj
set_option maxRecDepth 100000 in
set_option maxHeartbeats 4000000 in
theorem tx_textOf (L : Tm) (codes : Bool) (v : Value) (P : Nat → Prop) (w : World) (hM : L.size ≤ 1000000) (h : IsTm w P v L) :
    Calls Tryd.prog 43 #[v, .bool codes] w (TxPost P (textT codes L) w) := by
  obtain ⟨a, cap, rfl⟩ := h.form
  obtain ⟨w1, w2, w3, w4⟩ := two w (.cells #[.int .i64 L.k, .int .i64 L.n, .string L.s, .slice a L.args.length cap] 28 (0, 0)) (.cells #[.int .i64 0, .int .i64 0, .string ⟨#[]⟩, .slice none 0 0] 28 (0, 0))
  obtain ⟨y0, y1, y2, y3⟩ := row4 w1
  have HL := Lib.hid w1
  have HR := Lib.hid w2
  have HZ := Lib.hid w3
  have HB := Lib.hid w4
  have H := Lib.hid (h.lt.below w4)
  have hsz := items_size L
  clear h w1 w2 w3 w4
  go_enter Tryd.func43, Tryd.ntmps43
  go_wp2_with fail
  generalize (w.alloc (.cells #[.int .i64 L.k, .int .i64 L.n, .string L.s, .slice a L.args.length cap] 28 (0, 0))).alloc (.cells #[.int .i64 0, .int .i64 0, .string ⟨#[]⟩, .slice none 0 0] 28 (0, 0)) = W1 at *
  refine (tm_itemsN L _ _ _ (by omega) H.out).mono ?_
  rintro e5 w5 ⟨v1, v2, a1, c1, rfl, e1, hcl, hcm, -, hsl, htl, hb5⟩
  obtain ⟨us, hus⟩ : ∃ us, us = (itemsT L).1 := ⟨_, rfl⟩
  obtain ⟨U, hU⟩ : ∃ U, U = (itemsT L).2 := ⟨_, rfl⟩
  rw [← hus] at e1 hcl hsl hsz
  rw [← hU] at htl hsz
  subst e1
  obtain ⟨q2, k2, rfl⟩ := htl.form
  have hbt : Below w5.heap.size w5 (w5.alloc (.cells #[.int .i64 U.k, .int .i64 U.n, .string U.s, .slice q2 U.args.length k2] 28 (0, 0))) := (Below.refl _ _).alloc (Nat.le_refl _) _
  have h15 := hb5.trans (hbt.mono hb5.size)
  have hz2 : W1.heap.size = w.heap.size + 2 := HZ.out
  have hlu := len_le us
  have HST := Lib.hid (show ToRel P codes L U us w (w5.heap.size + 1) w5.heap.size (.slice a1 us.length c1) (.slice none 0 0) (.int .i64 ((0 : Nat) : Int)) (w5.alloc (.cells #[.int .i64 U.k, .int .i64 U.n, .string U.s, .slice q2 U.args.length k2] 28 (0, 0))) from
    { ex := ⟨0, by omega, rfl, fun j _ h => by omega, by simpa using Byt.OwnB.nil _ _⟩
      res := row_on HR.out h15
      lst := ⟨_, _, row_on HL.out h15, H.out.below h15⟩
      tl := ⟨_, _, heap_alloc_new w5 _⟩
      sl := (hsl.lt2.imp (P' := fun b => w.heap.size + 2 ≤ b ∧ b < w5.heap.size + 1) (fun b hb => ⟨by have := hb.1; omega, by have := hb.2; omega⟩) fun _ _ _ => rfl).below hbt
      bel := HB.out.trans (h15.mono HB.out.size)
      lo := by have := hb5.size; omega
      tlt := by simp })
  have HUS := Lib.hid (And.intro hus hU)
  unfold maxLen at hcm
  clear hsl htl hb5 hbt h15 H HL HR HB hz2 HZ hus hU y0 y1 y2 y3
  go_wp2
  generalize w5.alloc (.cells #[.int .i64 U.k, .int .i64 U.n, .string U.s, .slice q2 U.args.length k2] 28 (0, 0)) = W6 at *
  go_loopw [8, 18] (fun v8 v18 wr => ToRel P codes L U us w (w5.heap.size + 1) w5.heap.size (.slice a1 us.length c1) v8 v18 wr) (fun _ v18 _ => us.length - (intOf v18).toNat)
  case atStart => exact HST.out
  case round =>
    clear HST
    have HRL := Lib.hid hrel
    obtain ⟨i, hi, rfl, hbad, hown⟩ := hrel.ex
    obtain ⟨q8, k8, e8⟩ := hown.slot
    rw [List.length_map, List.length_take, Nat.min_eq_left hi] at e8
    subst e8
    by_cases hin : i < us.length
    · have b1 : decide ((i : Int) < (us.length : Int)) = true := by simp; omega
      have b2 : decide (i < us.length) = true := by simpa using hin
      obtain ⟨T, hT⟩ : ∃ T, T = us[i] := ⟨_, rfl⟩
      obtain ⟨gb, go, ea, -, hat⟩ := hrel.sl.at i hin
      subst ea
      rw [← hT] at hat
      obtain ⟨qa, qc, x0, x1, x2, x3, hit, hlb⟩ := hat.read
      have HTT := Lib.hid hT
      have hTs : T.size ≤ 1000000 := by rw [hT]; have := size_mem hin; omega
      have hwt := (Below.refl wr.heap.size wr).alloc (Nat.le_refl _) (.cells #[.int .i64 T.k, .int .i64 T.n, .string T.s, .slice qa T.args.length qc] 28 (0, 0))
      have HWT := Lib.hid hwt
      have HNW := Lib.hid (heap_alloc_new wr (.cells #[.int .i64 T.k, .int .i64 T.n, .string T.s, .slice qa T.args.length qc] 28 (0, 0)))
      have HIT := Lib.hid ((hit.imp (P' := fun b => w.heap.size + 2 ≤ b) (fun b hb => hb.1) (fun _ _ _ => rfl)).below hwt)
      have HOW := Lib.hid hown
      have HBA := Lib.hid hbad
      have hlo := hrel.lo
      have hlr := hrel.bel.size
      have hlt5 := hrel.tlt
      clear hat hit hwt hown hbad hrel hT
      go_upto_region 7 with fail
      clear x0 x1 x2 x3 hlb
      generalize wr.alloc (.cells #[.int .i64 T.k, .int .i64 T.n, .string T.s, .slice qa T.args.length qc] 28 (0, 0)) = WT at *
      obtain ⟨x0, x1, x2, x3⟩ := row4 HNW.out
      by_cases hk1 : T.k = 1
      · have HFB := Lib.hid (find_bad hin HBA.out (b := formalE 12 ⟨#[]⟩ zeroT0) (by rw [← HTT.out]; unfold badItem; rw [if_pos hk1]))
        have c1' : (T.k == 1) = true := by rw [hk1]; rfl
        clear hk1
        go_wp2_with fail
        refine (flt_formal 12 ⟨#[]⟩ zeroT0 _ (fun b => w.heap.size + 2 ≤ b) _ (by decide) (show IsTm _ (fun b => w.heap.size + 2 ≤ b) _ zeroT0 from IsTm.mk' (t := zeroT0) (IsSl.nil _ _ none 0))).mono ?_
        rintro e9 w9 ⟨v9, rfl, hi9, hb9⟩
        obtain ⟨q9, k9, rfl⟩ := hi9.form
        have h9 := HWT.out.trans (hb9.mono HWT.out.size)
        have HI9 := Lib.hid (hi9.imp (P' := fun b => w.heap.size + 2 ≤ b) (fun b hb => by have := HWT.out.size; have := hlo; omega) fun _ _ _ => rfl)
        have HR9 := Lib.hid (row_on HRL.out.res h9)
        have HB9 := Lib.hid (HRL.out.bel.trans (h9.mono HRL.out.bel.size))
        have HXT := Lib.hid (show textT codes L = (some (formalE 12 ⟨#[]⟩ zeroT0), []) by unfold textT; rw [← HUS.out.1, HFB.out])
        clear hi9 hb9 h9
        generalize hF : formalE 12 ⟨#[]⟩ zeroT0 = F at *
        clear hF
        go_wp2_with (refine wpList_store_row rfl 28 (.tmp 5) (.tmp 29) rfl (w.heap.size + 1) #[.int .i64 F.k, .int .i64 F.n, .string F.s, .slice q9 F.args.length k9] rfl rfl _ _ HR9.out size_term rfl (one4 _ _ _ _ _ _) ?_)
        have hz := setRow_heap w9 (w.heap.size + 1) _ (#[.int .i64 F.k, .int .i64 F.n, .string F.s, .slice q9 F.args.length k9] : Array Value) _ _ HR9.out
        rw [HXT.out]
        exact bodyPost_ret (v := .tuple #[.string ⟨#[]⟩, .agg #[.int .i64 F.k, .int .i64 F.n, .string F.s, .slice q9 F.args.length k9]]) (results_tmp_cell Tryd.results43 _ _ (w.heap.size + 1) _ _ _ _ _ rfl rfl hz Tryd.underlying28 rfl (by kernel_rfl)) rfl ⟨_, rfl, HI9.out.imp (P := fun b => w.heap.size + 2 ≤ b) (P' := fun b => w.heap.size + 2 ≤ b ∨ P b ∧ b < w.heap.size) (fun b hb => Or.inl hb) (fun b hb _ => setRow_other w9 (w.heap.size + 1) b _ (by have hb' : w.heap.size + 2 ≤ b := hb; omega)), below_row HB9.out (by omega)⟩
      have c1' : (T.k == 1) = false := by simpa using hk1
      cases codes
      · have hnb : badItem false T = if T.k = 3 ∧ T.s.size = 1 then none else some (formalE 13 (⟨#[99, 104, 97, 114, 97, 99, 116, 101, 114]⟩ : ByteArray) T) := by unfold badItem; rw [if_neg hk1, if_neg (by decide)]
        by_cases hk3 : T.k = 3 ∧ T.s.size = 1
        · rw [if_pos hk3] at hnb
          have HNO := Lib.hid hnb
          have c2 : (T.k == 3) = true := by rw [hk3.1]; rfl
          have c3 : ((T.s.size : Int) == 1) = true := by rw [hk3.2]; rfl
          have c4 : (T.s.size == 1) = true := by rw [hk3.2]; rfl
          have h1 : T.s.size = 1 := hk3.2
          have h01 : 0 < T.s.size := by omega
          have HBY := Lib.hid (show ((byteT false T).toNat : Int) = ((T.s[0]'h01).toNat : Int) by unfold byteT; rw [if_neg (by decide), byte0 h1])
          clear hk3 h1
          have HWX := Lib.hid (HWT.out.trans (((Below.refl WT.heap.size WT).alloc (Nat.le_refl _) (.cells #[.int .u8 ((T.s[0]'h01).toNat : Int)] 5 (0, 0))).mono HWT.out.size))
          have HNB := Lib.hid (show (WT.alloc (.cells #[.int .u8 ((T.s[0]'h01).toNat : Int)] 5 (0, 0))).heap[WT.heap.size]? = some (.cells ([byteT false T].map Byt.cellB).toArray 5 (0, 0)) by rw [show [byteT false T].map Byt.cellB = [.int .u8 ((T.s[0]'h01).toNat : Int)] from by simp only [List.map_cons, List.map_nil, Byt.cellB]; rw [HBY.out]]; exact heap_alloc_new WT _)
          go_wp2_with (with_reducible show wpList _ _ _ (⟨some 76, _, _, _, _, _⟩ :: _) _ _
                       go_must (
                         refine Byt.wpList_appL rfl (.tmp 71) (.tmp 75) rfl (w5.heap.size + 1) (.slice q8 i k8) ((us.take i).map (byteT false)) [byteT false T] WT.heap.size 1 _ _ rfl (HOW.out.below HWX.out) rfl HNB.out (by simp; omega) (by have := HWX.out.size; omega) ?_
                         intro v' w9 ho9 hb9
                         have HRL9 := Lib.hid (HRL.out.next (by omega) hin HBA.out HTT.out HNO.out HWX.out ho9 hb9)
                         clear ho9 hb9))
          go_roundw
          case measure => simp [intOf]; omega
          case rel => exact HRL9.out
        · rw [if_neg hk3] at hnb
          have HFB := Lib.hid (find_bad hin HBA.out (b := formalE 13 (⟨#[99, 104, 97, 114, 97, 99, 116, 101, 114]⟩ : ByteArray) T) (by rw [← HTT.out]; exact hnb))
          by_cases h3 : T.k = 3
          · have c2 : (T.k == 3) = true := by rw [h3]; rfl
            have c3 : ((T.s.size : Int) == 1) = false := by simp; omega
            have c4 : (T.s.size == 1) = false := by simp; omega
            clear hk3 h3
            go_wp2_with fail
            refine (flt_formal 13 (⟨#[99, 104, 97, 114, 97, 99, 116, 101, 114]⟩ : ByteArray) T _ (fun b => w.heap.size + 2 ≤ b) _ (by omega) HIT.out).mono ?_
            rintro e9 w9 ⟨v9, rfl, hi9, hb9⟩
            obtain ⟨q9, k9, rfl⟩ := hi9.form
            have h9 := HWT.out.trans (hb9.mono HWT.out.size)
            have HI9 := Lib.hid (hi9.imp (P' := fun b => w.heap.size + 2 ≤ b) (fun b hb => by have := HWT.out.size; have := hlo; omega) fun _ _ _ => rfl)
            have HR9 := Lib.hid (row_on HRL.out.res h9)
            have HB9 := Lib.hid (HRL.out.bel.trans (h9.mono HRL.out.bel.size))
            have HXT := Lib.hid (show textT false L = (some (formalE 13 (⟨#[99, 104, 97, 114, 97, 99, 116, 101, 114]⟩ : ByteArray) T), []) by unfold textT; rw [← HUS.out.1, HFB.out])
            clear hi9 hb9 h9
            generalize hF : formalE 13 (⟨#[99, 104, 97, 114, 97, 99, 116, 101, 114]⟩ : ByteArray) T = F at *
            clear hF
            go_wp2_with (refine wpList_store_row rfl 28 (.tmp 5) (.tmp 23) rfl (w.heap.size + 1) #[.int .i64 F.k, .int .i64 F.n, .string F.s, .slice q9 F.args.length k9] rfl rfl _ _ HR9.out size_term rfl (one4 _ _ _ _ _ _) ?_)
            have hz := setRow_heap w9 (w.heap.size + 1) _ (#[.int .i64 F.k, .int .i64 F.n, .string F.s, .slice q9 F.args.length k9] : Array Value) _ _ HR9.out
            rw [HXT.out]
            exact bodyPost_ret (v := .tuple #[.string ⟨#[]⟩, .agg #[.int .i64 F.k, .int .i64 F.n, .string F.s, .slice q9 F.args.length k9]]) (results_tmp_cell Tryd.results43 _ _ (w.heap.size + 1) _ _ _ _ _ rfl rfl hz Tryd.underlying28 rfl (by kernel_rfl)) rfl ⟨_, rfl, HI9.out.imp (P := fun b => w.heap.size + 2 ≤ b) (P' := fun b => w.heap.size + 2 ≤ b ∨ P b ∧ b < w.heap.size) (fun b hb => Or.inl hb) (fun b hb _ => setRow_other w9 (w.heap.size + 1) b _ (by have hb' : w.heap.size + 2 ≤ b := hb; omega)), below_row HB9.out (by omega)⟩
          · have c2 : (T.k == 3) = false := by simpa using h3
            clear hk3 h3
            go_wp2_with fail
            refine (flt_formal 13 (⟨#[99, 104, 97, 114, 97, 99, 116, 101, 114]⟩ : ByteArray) T _ (fun b => w.heap.size + 2 ≤ b) _ (by omega) HIT.out).mono ?_
            rintro e9 w9 ⟨v9, rfl, hi9, hb9⟩
            obtain ⟨q9, k9, rfl⟩ := hi9.form
            have h9 := HWT.out.trans (hb9.mono HWT.out.size)
            have HI9 := Lib.hid (hi9.imp (P' := fun b => w.heap.size + 2 ≤ b) (fun b hb => by have := HWT.out.size; have := hlo; omega) fun _ _ _ => rfl)
            have HR9 := Lib.hid (row_on HRL.out.res h9)
            have HB9 := Lib.hid (HRL.out.bel.trans (h9.mono HRL.out.bel.size))
            have HXT := Lib.hid (show textT false L = (some (formalE 13 (⟨#[99, 104, 97, 114, 97, 99, 116, 101, 114]⟩ : ByteArray) T), []) by unfold textT; rw [← HUS.out.1, HFB.out])
            clear hi9 hb9 h9
            generalize hF : formalE 13 (⟨#[99, 104, 97, 114, 97, 99, 116, 101, 114]⟩ : ByteArray) T = F at *
            clear hF
            go_wp2_with (refine wpList_store_row rfl 28 (.tmp 5) (.tmp 23) rfl (w.heap.size + 1) #[.int .i64 F.k, .int .i64 F.n, .string F.s, .slice q9 F.args.length k9] rfl rfl _ _ HR9.out size_term rfl (one4 _ _ _ _ _ _) ?_)
            have hz := setRow_heap w9 (w.heap.size + 1) _ (#[.int .i64 F.k, .int .i64 F.n, .string F.s, .slice q9 F.args.length k9] : Array Value) _ _ HR9.out
            rw [HXT.out]
            exact bodyPost_ret (v := .tuple #[.string ⟨#[]⟩, .agg #[.int .i64 F.k, .int .i64 F.n, .string F.s, .slice q9 F.args.length k9]]) (results_tmp_cell Tryd.results43 _ _ (w.heap.size + 1) _ _ _ _ _ rfl rfl hz Tryd.underlying28 rfl (by kernel_rfl)) rfl ⟨_, rfl, HI9.out.imp (P := fun b => w.heap.size + 2 ≤ b) (P' := fun b => w.heap.size + 2 ≤ b ∨ P b ∧ b < w.heap.size) (fun b hb => Or.inl hb) (fun b hb _ => setRow_other w9 (w.heap.size + 1) b _ (by have hb' : w.heap.size + 2 ≤ b := hb; omega)), below_row HB9.out (by omega)⟩
      · have hnb : badItem true T = if T.k = 2 then (if T.n < 0 ∨ 255 < T.n then some (formalE 3 (⟨#[99, 104, 97, 114, 97, 99, 116, 101, 114, 95, 99, 111, 100, 101]⟩ : ByteArray) zeroT0) else none) else some (formalE 13 (⟨#[105, 110, 116, 101, 103, 101, 114]⟩ : ByteArray) T) := by unfold badItem; rw [if_neg hk1, if_pos rfl]
        by_cases hk2 : T.k = 2
        · rw [if_pos hk2] at hnb
          have c2 : (T.k != 2) = false := by rw [hk2]; rfl
          by_cases hr : T.n < 0 ∨ 255 < T.n
          · rw [if_pos hr] at hnb
            have HFB := Lib.hid (find_bad hin HBA.out (b := formalE 3 (⟨#[99, 104, 97, 114, 97, 99, 116, 101, 114, 95, 99, 111, 100, 101]⟩ : ByteArray) zeroT0) (by rw [← HTT.out]; exact hnb))
            by_cases hr1 : T.n < 0
            · have c3 : decide (T.n < 0) = true := by simpa using hr1
              clear hr hr1 hk2
              go_wp2_with fail
              refine (flt_formal 3 (⟨#[99, 104, 97, 114, 97, 99, 116, 101, 114, 95, 99, 111, 100, 101]⟩ : ByteArray) zeroT0 _ (fun b => w.heap.size + 2 ≤ b) _ (by decide) (show IsTm _ (fun b => w.heap.size + 2 ≤ b) _ zeroT0 from IsTm.mk' (t := zeroT0) (IsSl.nil _ _ none 0))).mono ?_
              rintro e9 w9 ⟨v9, rfl, hi9, hb9⟩
              obtain ⟨q9, k9, rfl⟩ := hi9.form
              have h9 := HWT.out.trans (hb9.mono HWT.out.size)
              have HI9 := Lib.hid (hi9.imp (P' := fun b => w.heap.size + 2 ≤ b) (fun b hb => by have := HWT.out.size; have := hlo; omega) fun _ _ _ => rfl)
              have HR9 := Lib.hid (row_on HRL.out.res h9)
              have HB9 := Lib.hid (HRL.out.bel.trans (h9.mono HRL.out.bel.size))
              have HXT := Lib.hid (show textT true L = (some (formalE 3 (⟨#[99, 104, 97, 114, 97, 99, 116, 101, 114, 95, 99, 111, 100, 101]⟩ : ByteArray) zeroT0), []) by unfold textT; rw [← HUS.out.1, HFB.out])
              clear hi9 hb9 h9
              generalize hF : formalE 3 (⟨#[99, 104, 97, 114, 97, 99, 116, 101, 114, 95, 99, 111, 100, 101]⟩ : ByteArray) zeroT0 = F at *
              clear hF
              go_wp2_with (refine wpList_store_row rfl 28 (.tmp 5) (.tmp 52) rfl (w.heap.size + 1) #[.int .i64 F.k, .int .i64 F.n, .string F.s, .slice q9 F.args.length k9] rfl rfl _ _ HR9.out size_term rfl (one4 _ _ _ _ _ _) ?_)
              have hz := setRow_heap w9 (w.heap.size + 1) _ (#[.int .i64 F.k, .int .i64 F.n, .string F.s, .slice q9 F.args.length k9] : Array Value) _ _ HR9.out
              rw [HXT.out]
              exact bodyPost_ret (v := .tuple #[.string ⟨#[]⟩, .agg #[.int .i64 F.k, .int .i64 F.n, .string F.s, .slice q9 F.args.length k9]]) (results_tmp_cell Tryd.results43 _ _ (w.heap.size + 1) _ _ _ _ _ rfl rfl hz Tryd.underlying28 rfl (by kernel_rfl)) rfl ⟨_, rfl, HI9.out.imp (P := fun b => w.heap.size + 2 ≤ b) (P' := fun b => w.heap.size + 2 ≤ b ∨ P b ∧ b < w.heap.size) (fun b hb => Or.inl hb) (fun b hb _ => setRow_other w9 (w.heap.size + 1) b _ (by have hb' : w.heap.size + 2 ≤ b := hb; omega)), below_row HB9.out (by omega)⟩
            · have c3 : decide (T.n < 0) = false := by simpa using hr1
              have c4 : decide (255 < T.n) = true := by simp; omega
              clear hr hr1 hk2
              go_wp2_with fail
              refine (flt_formal 3 (⟨#[99, 104, 97, 114, 97, 99, 116, 101, 114, 95, 99, 111, 100, 101]⟩ : ByteArray) zeroT0 _ (fun b => w.heap.size + 2 ≤ b) _ (by decide) (show IsTm _ (fun b => w.heap.size + 2 ≤ b) _ zeroT0 from IsTm.mk' (t := zeroT0) (IsSl.nil _ _ none 0))).mono ?_
              rintro e9 w9 ⟨v9, rfl, hi9, hb9⟩
              obtain ⟨q9, k9, rfl⟩ := hi9.form
              have h9 := HWT.out.trans (hb9.mono HWT.out.size)
              have HI9 := Lib.hid (hi9.imp (P' := fun b => w.heap.size + 2 ≤ b) (fun b hb => by have := HWT.out.size; have := hlo; omega) fun _ _ _ => rfl)
              have HR9 := Lib.hid (row_on HRL.out.res h9)
              have HB9 := Lib.hid (HRL.out.bel.trans (h9.mono HRL.out.bel.size))
              have HXT := Lib.hid (show textT true L = (some (formalE 3 (⟨#[99, 104, 97, 114, 97, 99, 116, 101, 114, 95, 99, 111, 100, 101]⟩ : ByteArray) zeroT0), []) by unfold textT; rw [← HUS.out.1, HFB.out])
              clear hi9 hb9 h9
              generalize hF : formalE 3 (⟨#[99, 104, 97, 114, 97, 99, 116, 101, 114, 95, 99, 111, 100, 101]⟩ : ByteArray) zeroT0 = F at *
              clear hF
              go_wp2_with (refine wpList_store_row rfl 28 (.tmp 5) (.tmp 52) rfl (w.heap.size + 1) #[.int .i64 F.k, .int .i64 F.n, .string F.s, .slice q9 F.args.length k9] rfl rfl _ _ HR9.out size_term rfl (one4 _ _ _ _ _ _) ?_)
              have hz := setRow_heap w9 (w.heap.size + 1) _ (#[.int .i64 F.k, .int .i64 F.n, .string F.s, .slice q9 F.args.length k9] : Array Value) _ _ HR9.out
              rw [HXT.out]
              exact bodyPost_ret (v := .tuple #[.string ⟨#[]⟩, .agg #[.int .i64 F.k, .int .i64 F.n, .string F.s, .slice q9 F.args.length k9]]) (results_tmp_cell Tryd.results43 _ _ (w.heap.size + 1) _ _ _ _ _ rfl rfl hz Tryd.underlying28 rfl (by kernel_rfl)) rfl ⟨_, rfl, HI9.out.imp (P := fun b => w.heap.size + 2 ≤ b) (P' := fun b => w.heap.size + 2 ≤ b ∨ P b ∧ b < w.heap.size) (fun b hb => Or.inl hb) (fun b hb _ => setRow_other w9 (w.heap.size + 1) b _ (by have hb' : w.heap.size + 2 ≤ b := hb; omega)), below_row HB9.out (by omega)⟩
          · rw [if_neg hr] at hnb
            have HNO := Lib.hid hnb
            obtain ⟨m, hm⟩ : ∃ m : Nat, T.n = (m : Int) := ⟨T.n.toNat, by omega⟩
            have hm2 : m ≤ 255 := by omega
            rw [hm] at x1
            have HBY := Lib.hid (show ((byteT true T).toNat : Int) = (m : Int) by
              unfold byteT
              rw [if_pos rfl, hm, Int.toNat_natCast]
              have : (UInt8.ofNat m).toNat = m := by simp; omega
              rw [this])
            have c3 : decide ((m : Int) < 0) = false := by simp
            have c4 : decide (255 < (m : Int)) = false := by simp; omega
            have c5 : decide (255 < m) = false := by simp; omega
            have HM := Lib.hid hm
            clear hr hk2 hm
            have HWX := Lib.hid (HWT.out.trans (((Below.refl WT.heap.size WT).alloc (Nat.le_refl _) (.cells #[.int .u8 (m : Int)] 5 (0, 0))).mono HWT.out.size))
            have HNB := Lib.hid (show (WT.alloc (.cells #[.int .u8 (m : Int)] 5 (0, 0))).heap[WT.heap.size]? = some (.cells ([byteT true T].map Byt.cellB).toArray 5 (0, 0)) by rw [show [byteT true T].map Byt.cellB = [.int .u8 (m : Int)] from by simp only [List.map_cons, List.map_nil, Byt.cellB]; rw [HBY.out]]; exact heap_alloc_new WT _)
            go_wp2_with (with_reducible show wpList _ _ _ (⟨some 60, _, _, _, _, _⟩ :: _) _ _
                         go_must (
                           refine Byt.wpList_appL rfl (.tmp 55) (.tmp 59) rfl (w5.heap.size + 1) (.slice q8 i k8) ((us.take i).map (byteT true)) [byteT true T] WT.heap.size 1 _ _ rfl (HOW.out.below HWX.out) rfl HNB.out (by simp; omega) (by have := HWX.out.size; omega) ?_
                           intro v' w9 ho9 hb9
                           have HRL9 := Lib.hid (HRL.out.next (by omega) hin HBA.out HTT.out HNO.out HWX.out ho9 hb9)
                           clear ho9 hb9))
            go_roundw
            case measure => simp [intOf]; omega
            case rel => exact HRL9.out
        · rw [if_neg hk2] at hnb
          have HFB := Lib.hid (find_bad hin HBA.out (b := formalE 13 (⟨#[105, 110, 116, 101, 103, 101, 114]⟩ : ByteArray) T) (by rw [← HTT.out]; exact hnb))
          have c2 : (T.k != 2) = true := by simpa using hk2
          clear hk2
          go_wp2_with fail
          refine (flt_formal 13 (⟨#[105, 110, 116, 101, 103, 101, 114]⟩ : ByteArray) T _ (fun b => w.heap.size + 2 ≤ b) _ (by omega) HIT.out).mono ?_
          rintro e9 w9 ⟨v9, rfl, hi9, hb9⟩
          obtain ⟨q9, k9, rfl⟩ := hi9.form
          have h9 := HWT.out.trans (hb9.mono HWT.out.size)
          have HI9 := Lib.hid (hi9.imp (P' := fun b => w.heap.size + 2 ≤ b) (fun b hb => by have := HWT.out.size; have := hlo; omega) fun _ _ _ => rfl)
          have HR9 := Lib.hid (row_on HRL.out.res h9)
          have HB9 := Lib.hid (HRL.out.bel.trans (h9.mono HRL.out.bel.size))
          have HXT := Lib.hid (show textT true L = (some (formalE 13 (⟨#[105, 110, 116, 101, 103, 101, 114]⟩ : ByteArray) T), []) by unfold textT; rw [← HUS.out.1, HFB.out])
          clear hi9 hb9 h9
          generalize hF : formalE 13 (⟨#[105, 110, 116, 101, 103, 101, 114]⟩ : ByteArray) T = F at *
          clear hF
          go_wp2_with (refine wpList_store_row rfl 28 (.tmp 5) (.tmp 38) rfl (w.heap.size + 1) #[.int .i64 F.k, .int .i64 F.n, .string F.s, .slice q9 F.args.length k9] rfl rfl _ _ HR9.out size_term rfl (one4 _ _ _ _ _ _) ?_)
          have hz := setRow_heap w9 (w.heap.size + 1) _ (#[.int .i64 F.k, .int .i64 F.n, .string F.s, .slice q9 F.args.length k9] : Array Value) _ _ HR9.out
          rw [HXT.out]
          exact bodyPost_ret (v := .tuple #[.string ⟨#[]⟩, .agg #[.int .i64 F.k, .int .i64 F.n, .string F.s, .slice q9 F.args.length k9]]) (results_tmp_cell Tryd.results43 _ _ (w.heap.size + 1) _ _ _ _ _ rfl rfl hz Tryd.underlying28 rfl (by kernel_rfl)) rfl ⟨_, rfl, HI9.out.imp (P := fun b => w.heap.size + 2 ≤ b) (P' := fun b => w.heap.size + 2 ≤ b ∨ P b ∧ b < w.heap.size) (fun b hb => Or.inl hb) (fun b hb _ => setRow_other w9 (w.heap.size + 1) b _ (by have hb' : w.heap.size + 2 ≤ b := hb; omega)), below_row HB9.out (by omega)⟩
    · have b1 : decide ((i : Int) < (us.length : Int)) = false := by simp; omega
      have b2 : decide (i < us.length) = false := by simpa using hin
      obtain rfl : i = us.length := by omega
      have HFN := Lib.hid (find_none (fun j hj => hbad j hj hj))
      rw [List.take_length] at hown
      have HOW := Lib.hid hown
      obtain ⟨la, lc, lr, lt⟩ := hrel.lst
      obtain ⟨ua, uc, ur⟩ := hrel.tl
      have HLT := Lib.hid lt
      obtain ⟨z0, z1, z2, z3⟩ := row4 lr
      obtain ⟨u0, u1, u2, u3⟩ := row4 ur
      have hlr := hrel.bel.size
      have hlo := hrel.lo
      have hlt5 := hrel.tlt
      clear hown hrel lt lr ur hbad
      by_cases hk1 : U.k = 1
      · have c1' : (U.k == 1) = true := by rw [hk1]; rfl
        have HK1 := Lib.hid hk1
        clear hk1
        go_wp2_with fail
        refine (flt_formal 12 ⟨#[]⟩ zeroT0 _ (fun b => w.heap.size + 2 ≤ b) _ (by decide) (show IsTm _ (fun b => w.heap.size + 2 ≤ b) _ zeroT0 from IsTm.mk' (t := zeroT0) (IsSl.nil _ _ none 0))).mono ?_
        rintro e9 w9 ⟨v9, rfl, hi9, hb9⟩
        obtain ⟨q9, k9, rfl⟩ := hi9.form
        have HI9 := Lib.hid (hi9.imp (P' := fun b => w.heap.size + 2 ≤ b ∨ P b ∧ b < w.heap.size) (fun b hb => by rcases hb with hb | hb; (· exact Or.inl hb); (· exact Or.inl (by omega))) fun _ _ _ => rfl)
        have HR9 := Lib.hid (row_on HRL.out.res hb9)
        have HB9 := Lib.hid (HRL.out.bel.trans (hb9.mono HRL.out.bel.size))
        have HXT := Lib.hid (show textT codes L = (some (formalE 12 ⟨#[]⟩ zeroT0), []) by unfold textT; rw [← HUS.out.1, HFN.out, ← HUS.out.2]; simp only []; rw [if_pos HK1.out])
        clear hi9 hb9
        generalize hF : formalE 12 ⟨#[]⟩ zeroT0 = F at *
        clear hF
        go_wp2_with (refine wpList_store_row rfl 28 (.tmp 5) (.tmp 82) rfl (w.heap.size + 1) #[.int .i64 F.k, .int .i64 F.n, .string F.s, .slice q9 F.args.length k9] rfl rfl _ _ HR9.out size_term rfl (one4 _ _ _ _ _ _) ?_)
        have hz := setRow_heap w9 (w.heap.size + 1) _ (#[.int .i64 F.k, .int .i64 F.n, .string F.s, .slice q9 F.args.length k9] : Array Value) _ _ HR9.out
        rw [HXT.out]
        exact bodyPost_ret (v := .tuple #[.string ⟨#[]⟩, .agg #[.int .i64 F.k, .int .i64 F.n, .string F.s, .slice q9 F.args.length k9]]) (results_tmp_cell Tryd.results43 _ _ (w.heap.size + 1) _ _ _ _ _ rfl rfl hz Tryd.underlying28 rfl (by kernel_rfl)) rfl ⟨_, rfl, HI9.out.imp (P := fun b => w.heap.size + 2 ≤ b ∨ P b ∧ b < w.heap.size) (P' := fun b => w.heap.size + 2 ≤ b ∨ P b ∧ b < w.heap.size) (fun b hb => hb) (fun b hb _ => setRow_other w9 (w.heap.size + 1) b _ (by have hb' : w.heap.size + 2 ≤ b ∨ P b ∧ b < w.heap.size := hb; rcases hb' with h | h; (· omega); (· have := h.2; omega))), below_row HB9.out (by omega)⟩
      have c1' : (U.k == 1) = false := by simpa using hk1
      have HK1 := Lib.hid hk1
      clear hk1
      by_cases hk3 : U.k = 3
      · have c2 : (U.k != 3) = false := by rw [hk3]; rfl
        have HK3 := Lib.hid hk3
        clear hk3
        by_cases hs : U.s.toList = [91, 93]
        · have c3 : (U.s.toList == [91, 93]) = true := by rw [hs]; rfl
          have c4 : (U.s.toList != [91, 93]) = false := by rw [hs]; rfl
          have HS := Lib.hid hs
          clear hs
          have HXT := Lib.hid (show textT codes L = (none, us.map (byteT codes)) by unfold textT; rw [← HUS.out.1, HFN.out, ← HUS.out.2]; simp only []; rw [if_neg HK1.out, if_pos ⟨HK3.out, HS.out⟩])
          go_wp2_with (first
            | (with_reducible show wpList _ _ _ (⟨some 94, _, _, _, _, _⟩ :: _) _ _
               go_must (refine Byt.wpList_strB rfl (.tmp 93) rfl (w5.heap.size + 1) _ (us.map (byteT codes)) rfl HOW.out ?_))
            | (with_reducible show wpList _ _ _ (⟨none, .store _ (.tmp 5) _, _, _, _, _⟩ :: _) _ _
               go_must (refine wpList_store_row rfl 28 (.tmp 5) (.tmp 95) rfl (w.heap.size + 1) #[.int .i64 0, .int .i64 0, .string ⟨#[]⟩, .slice none 0 0] rfl (by kernel_rfl) _ _ HRL.out.res size_term rfl (one4 _ _ _ _ _ _) ?_)))
          have hz := setRow_heap wr (w.heap.size + 1) _ (#[.int .i64 0, .int .i64 0, .string ⟨#[]⟩, .slice none 0 0] : Array Value) _ _ HRL.out.res
          rw [HXT.out]
          exact bodyPost_ret (v := .tuple #[.string ⟨(us.map (byteT codes)).toArray⟩, .agg #[.int .i64 0, .int .i64 0, .string ⟨#[]⟩, .slice none 0 0]]) (results_tmp_cell Tryd.results43 _ _ (w.heap.size + 1) _ _ _ _ _ rfl rfl hz Tryd.underlying28 rfl (by kernel_rfl)) rfl ⟨_, rfl, IsTm.mk' (t := zeroT0) (IsSl.nil _ _ none 0), below_row HRL.out.bel (by omega)⟩
        · have c3 : (U.s.toList == [91, 93]) = false := by simpa using hs
          have c4 : (U.s.toList != [91, 93]) = true := by simpa using hs
          have HS := Lib.hid hs
          clear hs
          go_wp2_with fail
          refine (flt_formal 13 (⟨#[108, 105, 115, 116]⟩ : ByteArray) L _ (fun b => P b ∧ b < w.heap.size) _ (by omega) HLT.out).mono ?_
          rintro e9 w9 ⟨v9, rfl, hi9, hb9⟩
          obtain ⟨q9, k9, rfl⟩ := hi9.form
          have HI9 := Lib.hid (hi9.imp (P' := fun b => w.heap.size + 2 ≤ b ∨ P b ∧ b < w.heap.size) (fun b hb => by rcases hb with hb | hb; (· exact Or.inr hb); (· exact Or.inl (by omega))) fun _ _ _ => rfl)
          have HR9 := Lib.hid (row_on HRL.out.res hb9)
          have HB9 := Lib.hid (HRL.out.bel.trans (hb9.mono HRL.out.bel.size))
          have HXT := Lib.hid (show textT codes L = (some (formalE 13 (⟨#[108, 105, 115, 116]⟩ : ByteArray) L), []) by unfold textT; rw [← HUS.out.1, HFN.out, ← HUS.out.2]; simp only []; rw [if_neg HK1.out, if_neg fun h => HS.out h.2])
          clear hi9 hb9
          generalize hF : formalE 13 (⟨#[108, 105, 115, 116]⟩ : ByteArray) L = F at *
          clear hF
          go_wp2_with (refine wpList_store_row rfl 28 (.tmp 5) (.tmp 92) rfl (w.heap.size + 1) #[.int .i64 F.k, .int .i64 F.n, .string F.s, .slice q9 F.args.length k9] rfl rfl _ _ HR9.out size_term rfl (one4 _ _ _ _ _ _) ?_)
          have hz := setRow_heap w9 (w.heap.size + 1) _ (#[.int .i64 F.k, .int .i64 F.n, .string F.s, .slice q9 F.args.length k9] : Array Value) _ _ HR9.out
          rw [HXT.out]
          exact bodyPost_ret (v := .tuple #[.string ⟨#[]⟩, .agg #[.int .i64 F.k, .int .i64 F.n, .string F.s, .slice q9 F.args.length k9]]) (results_tmp_cell Tryd.results43 _ _ (w.heap.size + 1) _ _ _ _ _ rfl rfl hz Tryd.underlying28 rfl (by kernel_rfl)) rfl ⟨_, rfl, HI9.out.imp (P := fun b => w.heap.size + 2 ≤ b ∨ P b ∧ b < w.heap.size) (P' := fun b => w.heap.size + 2 ≤ b ∨ P b ∧ b < w.heap.size) (fun b hb => hb) (fun b hb _ => setRow_other w9 (w.heap.size + 1) b _ (by have hb' : w.heap.size + 2 ≤ b ∨ P b ∧ b < w.heap.size := hb; rcases hb' with h | h; (· omega); (· have := h.2; omega))), below_row HB9.out (by omega)⟩
      · have c2 : (U.k != 3) = true := by simpa using hk3
        have HK3 := Lib.hid hk3
        clear hk3
        go_wp2_with fail
        refine (flt_formal 13 (⟨#[108, 105, 115, 116]⟩ : ByteArray) L _ (fun b => P b ∧ b < w.heap.size) _ (by omega) HLT.out).mono ?_
        rintro e9 w9 ⟨v9, rfl, hi9, hb9⟩
        obtain ⟨q9, k9, rfl⟩ := hi9.form
        have HI9 := Lib.hid (hi9.imp (P' := fun b => w.heap.size + 2 ≤ b ∨ P b ∧ b < w.heap.size) (fun b hb => by rcases hb with hb | hb; (· exact Or.inr hb); (· exact Or.inl (by omega))) fun _ _ _ => rfl)
        have HR9 := Lib.hid (row_on HRL.out.res hb9)
        have HB9 := Lib.hid (HRL.out.bel.trans (hb9.mono HRL.out.bel.size))
        have HXT := Lib.hid (show textT codes L = (some (formalE 13 (⟨#[108, 105, 115, 116]⟩ : ByteArray) L), []) by unfold textT; rw [← HUS.out.1, HFN.out, ← HUS.out.2]; simp only []; rw [if_neg HK1.out, if_neg fun h => HK3.out h.1])
        clear hi9 hb9
        generalize hF : formalE 13 (⟨#[108, 105, 115, 116]⟩ : ByteArray) L = F at *
        clear hF
        go_wp2_with (refine wpList_store_row rfl 28 (.tmp 5) (.tmp 92) rfl (w.heap.size + 1) #[.int .i64 F.k, .int .i64 F.n, .string F.s, .slice q9 F.args.length k9] rfl rfl _ _ HR9.out size_term rfl (one4 _ _ _ _ _ _) ?_)
        have hz := setRow_heap w9 (w.heap.size + 1) _ (#[.int .i64 F.k, .int .i64 F.n, .string F.s, .slice q9 F.args.length k9] : Array Value) _ _ HR9.out
        rw [HXT.out]
        exact bodyPost_ret (v := .tuple #[.string ⟨#[]⟩, .agg #[.int .i64 F.k, .int .i64 F.n, .string F.s, .slice q9 F.args.length k9]]) (results_tmp_cell Tryd.results43 _ _ (w.heap.size + 1) _ _ _ _ _ rfl rfl hz Tryd.underlying28 rfl (by kernel_rfl)) rfl ⟨_, rfl, HI9.out.imp (P := fun b => w.heap.size + 2 ≤ b ∨ P b ∧ b < w.heap.size) (P' := fun b => w.heap.size + 2 ≤ b ∨ P b ∧ b < w.heap.size) (fun b hb => hb) (fun b hb _ => setRow_other w9 (w.heap.size + 1) b _ (by have hb' : w.heap.size + 2 ≤ b ∨ P b ∧ b < w.heap.size := hb; rcases hb' with h | h; (· omega); (· have := h.2; omega))), below_row HB9.out (by omega)⟩
end Go.Proofs.YtkhchmgdaolojaaDoor.Tms
namespace Go.Proofs.YtkhchmgdaolojaaDoor.Tms
open Go Go.RowKit Go.Proofs.YtkhchmgdaolojaaDoor.Reg Go.Proofs.YtkhchmgdaolojaaDoor.Rws Go.Proofs.YtkhchmgdaolojaaDoor.Maps Go.Instr
set_option linter.unusedVariables false
set_option linter.unusedSimpArgs false

/-- the number that a text is, and whether it is one -/
def numB (minus : Bool) (r : Int × Int) : Int × Bool := if r.2 ≠ 0 then (0, false) else if r.1 < 0 then (r.1, minus) else if minus then (-r.1, true) else (r.1, true)
def isMinus (l : List UInt8) : Bool := l.head? == some 45
def numberT (l : List UInt8) : Int × Bool := numB (isMinus l) (Num.parseT (if isMinus l then l.drop 1 else l) 10)
theorem parse_fit (l : List UInt8) (b : Int) : Num.Fit (Num.parseT l b).1 := by
  by_cases h1 : b < 2 ∨ 36 < b
  · rw [Num.parse_arg h1]; decide
  by_cases h2 : l = [] ∨ Num.badB b l = true
  · rw [Num.parse_form h1 h2]; decide
  have h2' : l ≠ [] ∧ Num.badB b l = false := by
    refine ⟨fun h => h2 (.inl h), ?_⟩
    cases h : Num.badB b l with
    | false => rfl
    | true => exact absurd (.inr h) h2
  by_cases h3 : 9223372036854775808 < Num.val b.toNat l
  · rw [Num.parse_over h1 h2'.1 h2'.2 h3]; decide
  · rw [Num.parse_val h1 h2'.1 h2'.2 (by omega)]
    exact Num.wrap_fit _
theorem drop_one (s : ByteArray) : (s.extract 1 s.size).data.toList = s.data.toList.drop 1 := by
  simp only [ByteArray.data_extract, Array.toList_extract, List.extract_eq_take_drop]
  rw [List.take_of_length_le]
  simp
set_option maxRecDepth 100000 in
set_option maxHeartbeats 4000000 in
theorem tx_numB (s : ByteArray) (minus : Bool) (hs : s.size ≤ 1000000) (w : World) (hm : isMinus s.data.toList = minus) :
    Calls Tryd.prog 44 #[.string s] w (fun e w' => e = .returned (.tuple #[.int .i64 (numberT s.data.toList).1, .bool (numberT s.data.toList).2]) ∧ Below w.heap.size w w') := by
  unfold numberT
  rw [hm]
  have hpf := parse_fit (if minus then s.data.toList.drop 1 else s.data.toList) 10
  obtain ⟨r, hr⟩ : ∃ r, r = Num.parseT (if minus then s.data.toList.drop 1 else s.data.toList) 10 := ⟨_, rfl⟩
  rw [← hr] at hpf ⊢
  have HR := Lib.hid hr
  clear hr
  obtain ⟨x, y⟩ := r
  unfold Num.Fit at hpf
  obtain ⟨hx1, hx2⟩ := hpf
  simp only at hx1 hx2
  have HM := Lib.hid hm
  clear hm
  obtain ⟨n, hn⟩ : ∃ n, n = numB minus (x, y) := ⟨_, rfl⟩
  rw [← hn]
  have hy : (y = 0 ∧ (y != 0) = false) ∨ (y ≠ 0 ∧ (y != 0) = true) := by by_cases h : y = 0 <;> simp [h]
  have hx : (x < 0 ∧ decide (x < 0) = true) ∨ (¬ x < 0 ∧ decide (x < 0) = false) := by by_cases h : x < 0 <;> simp [h]
  cases minus
  · have HP : ∀ W : World, Calls Tryd.prog 65 #[.string s, .int .i64 10] W (Num.NPost (x, y) W) := fun W => by
      have := Num.go_Parse s (by unfold maxLen; omega) 10 (by decide) W
      have h := HR.out
      rw [if_neg (by decide)] at h
      rw [← h] at this
      exact this
    have HPP := Lib.hid HP
    clear HP
    have hs0 : (s.size = 0 ∧ decide (0 < (s.size : Int)) = false ∧ decide (0 < s.size) = false) ∨ (∃ h : 0 < s.size, decide (0 < (s.size : Int)) = true ∧ decide (0 < s.size) = true ∧ (((s[0]'h).toNat : Int) == 45) = false) := by
      by_cases h : s.size = 0
      · exact .inl ⟨h, by rw [h]; rfl, by rw [h]; rfl⟩
      · refine .inr ⟨by omega, by simp; omega, by simp; omega, ?_⟩
        have hm := HM.out
        unfold isMinus at hm
        have : s.data.toList.head? = some (s[0]'(by omega)) := by
          obtain ⟨d⟩ := s
          obtain ⟨l⟩ := d
          cases l with
          | nil => exact absurd rfl h
          | cons c l => rfl
        rw [this] at hm
        simp at hm ⊢
        intro e
        apply hm
        exact UInt8.toNat_inj.1 (by show _ = 45; omega)
    rcases hs0 with ⟨-, c0, c1⟩ | ⟨h0, c0, c1, c2⟩
    all_goals
      rcases hy with ⟨hy0, c3⟩ | ⟨hy0, c3⟩
      · rcases hx with ⟨hx0, c4⟩ | ⟨hx0, c4⟩
        · have HN := Lib.hid (show n = (x, false) by rw [hn]; unfold numB; simp [hy0, hx0])
          clear hy0 hx0 hn
          go_enter Tryd.func44, Tryd.ntmps44
          go_wp2_with (go_at_call 65; refine (HPP.out _).mono ?_; rintro e1 w1 ⟨rfl, hb1⟩; have HB1 := Lib.hid hb1; clear hb1)
          go_ret2
          rw [HN.out]
          exact ⟨rfl, HB1.out⟩
        · have HN := Lib.hid (show n = (x, true) by rw [hn]; unfold numB; simp [hy0, hx0])
          clear hy0 hx0 hn
          go_enter Tryd.func44, Tryd.ntmps44
          go_wp2_with (go_at_call 65; refine (HPP.out _).mono ?_; rintro e1 w1 ⟨rfl, hb1⟩; have HB1 := Lib.hid hb1; clear hb1)
          go_ret2
          rw [HN.out]
          exact ⟨rfl, HB1.out⟩
      · have HN := Lib.hid (show n = (0, false) by rw [hn]; unfold numB; simp [hy0])
        clear hy0 hx hn
        go_enter Tryd.func44, Tryd.ntmps44
        go_wp2_with (go_at_call 65; refine (HPP.out _).mono ?_; rintro e1 w1 ⟨rfl, hb1⟩; have HB1 := Lib.hid hb1; clear hb1)
        go_ret2
        rw [HN.out]
        exact ⟨rfl, HB1.out⟩
  · have h0 : 0 < s.size := by
      have hm := HM.out
      unfold isMinus at hm
      by_cases h : s.size = 0
      · obtain ⟨d⟩ := s
        obtain ⟨l⟩ := d
        cases l with
        | nil => cases hm
        | cons c l => cases h
      · omega
    have c2 : (((s[0]'h0).toNat : Int) == 45) = true := by
      have hm := HM.out
      unfold isMinus at hm
      have : s.data.toList.head? = some (s[0]'h0) := by
        obtain ⟨d⟩ := s
        obtain ⟨l⟩ := d
        cases l with
        | nil => cases h0
        | cons c l => rfl
      rw [this] at hm
      simp at hm ⊢
      rw [hm]
      rfl
    have c0 : decide (0 < (s.size : Int)) = true := by simp; omega
    have c1 : decide (0 < s.size) = true := by simp; omega
    have hsl : ∀ W : World, (Instr.slice 9 (.string s) (some (.int .i64 1)) none none).run Tryd.prog W = .ok (.string (s.extract 1 s.size)) W := fun W => by
      rw [run_slice_string_l (P := Tryd.prog) W 9 s Tryd.underlying9 .i64 1 (by decide) (by omega)]
      rfl
    have HP : ∀ W : World, Calls Tryd.prog 65 #[.string (s.extract 1 s.size), .int .i64 10] W (Num.NPost (x, y) W) := fun W => by
      have := Num.go_Parse (s.extract 1 s.size) (by rw [ByteArray.size_extract]; unfold maxLen; omega) 10 (by decide) W
      have h := HR.out
      rw [if_pos rfl] at h
      rw [drop_one, ← h] at this
      exact this
    have HPP := Lib.hid HP
    clear HP
    rcases hy with ⟨hy0, c3⟩ | ⟨hy0, c3⟩
    · rcases hx with ⟨hx0, c4⟩ | ⟨hx0, c4⟩
      · have HN := Lib.hid (show n = (x, true) by rw [hn]; unfold numB; simp [hy0, hx0])
        clear hy0 hx0 hn
        go_enter Tryd.func44, Tryd.ntmps44
        go_wp2_with (go_at_call 65; refine (HPP.out _).mono ?_; rintro e1 w1 ⟨rfl, hb1⟩; have HB1 := Lib.hid hb1; clear hb1)
        go_ret2
        rw [HN.out]
        exact ⟨rfl, HB1.out⟩
      · have HN := Lib.hid (show n = (-x, true) by rw [hn]; unfold numB; simp [hy0, hx0])
        have HX3 := Lib.hid (show Num.Fit (-x) by unfold Num.Fit; omega)
        clear hy0 hx0 hn
        go_enter Tryd.func44, Tryd.ntmps44
        go_wp2_with (go_at_call 65; refine (HPP.out _).mono ?_; rintro e1 w1 ⟨rfl, hb1⟩; have HB1 := Lib.hid hb1; clear hb1)
        go_ret2
        have hneg : wrap64 (-x) = -x := Num.wrap_in HX3.out
        rw [HN.out]
        refine ⟨?_, HB1.out⟩
        show Ending.returned (.tuple #[.int .i64 (wrap64 (-x)), .bool true]) = _
        rw [hneg]
    · have HN := Lib.hid (show n = (0, false) by rw [hn]; unfold numB; simp [hy0])
      clear hy0 hx hn
      go_enter Tryd.func44, Tryd.ntmps44
      go_wp2_with (go_at_call 65; refine (HPP.out _).mono ?_; rintro e1 w1 ⟨rfl, hb1⟩; have HB1 := Lib.hid hb1; clear hb1)
      go_ret2
      rw [HN.out]
      exact ⟨rfl, HB1.out⟩
theorem tx_numberOf (s : ByteArray) (hs : s.size ≤ 1000000) (w : World) :
    Calls Tryd.prog 44 #[.string s] w (fun e w' => e = .returned (.tuple #[.int .i64 (numberT s.data.toList).1, .bool (numberT s.data.toList).2]) ∧ Below w.heap.size w w') := tx_numB s _ hs w rfl
end Go.Proofs.YtkhchmgdaolojaaDoor.Tms
