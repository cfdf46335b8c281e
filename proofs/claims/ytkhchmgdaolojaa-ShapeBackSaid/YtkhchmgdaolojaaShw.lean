
/-
  Layer 17: a term in memory of its own (shape.own).
-/
import Derived.Test.YtkhchmgdaolojaaGnb
import Derived.Test.YtkhchmgdaolojaaFll
import Derived.Test.YtkhchmgdaolojaaPut
import Derived.Deep.Cut
import Derived.Deep.CutRange
import Derived.Deep.DeepCutAuto
import Derived.Deep.DeepMust
namespace Go.Proofs.Ytkhchmgdaolojaa.Tms
open Go Go.RowKit Go.Proofs.Ytkhchmgdaolojaa.Reg Go.Proofs.Ytkhchmgdaolojaa.Rws Go.Instr
set_option linter.unusedVariables false
set_option linter.unusedSimpArgs false

/-- a term that the call made -/
def OwPost (t : Tm) (w : World) (e : Ending) (w' : World) : Prop := ∃ a c, e = .returned (aggT t a c) ∧ IsTm w' (fun b => w.heap.size ≤ b) (aggT t a c) t ∧ Below w.heap.size w w'
structure OwRel (t : Tm) (w : World) (a : Option Addr) (c : Nat) (vi : Value) (wr : World) : Prop where
  at_ : ∃ r : Nat, r ≤ t.args.length ∧ vi = .int .i64 r ∧ Fill wr (w.heap.size + 2) t.args.length (w.heap.size + 2) (t.args.take r)
  box : wr.heap[w.heap.size]? = some (.cells #[.int .i64 t.k, .int .i64 t.n, .string t.s, .slice a t.args.length c] 49 (0, 0))
  res : wr.heap[w.heap.size + 1]? = some (.cells #[.int .i64 0, .int .i64 0, .string ⟨#[]⟩, .slice none 0 0] 49 (0, 0))
  bel : Below w.heap.size w wr
set_option maxRecDepth 100000 in
set_option maxHeartbeats 4000000 in
theorem sh_own (N : Nat) : ∀ (t : Tm) (v : Value) (P : Nat → Prop) (w : World), t.size ≤ N → t.size ≤ 1000000000 → IsTm w P v t → Calls Try.prog 118 #[v] w (OwPost t w) := by
  induction N with
  | zero => intro t v P w h1; have := size_pos t; omega
  | succ N ih =>
    intro t v P w hN hM h
    obtain ⟨a, c, rfl⟩ := h.form
    have H := Lib.hid h.lt
    have IH := Lib.hid ih
    obtain ⟨w1, w2, w3, w4⟩ := two w (.cells #[.int .i64 t.k, .int .i64 t.n, .string t.s, .slice a t.args.length c] 49 (0, 0)) (.cells #[.int .i64 0, .int .i64 0, .string ⟨#[]⟩, .slice none 0 0] 49 (0, 0))
    obtain ⟨x0, x1, x2, x3⟩ := row4 w1
    have hlen : t.args.length ≤ t.size := by
      obtain ⟨_, _, _, l⟩ := t
      have := len_le l
      simp only [Tm.size, Tm.args]
      omega
    by_cases h0 : t.args.length = 0
    · have b0 : ((t.args.length : Int) == 0) = true := by simp [h0]
      have HT := Lib.hid h0
      clear h ih h0
      go_enter Try.func118, Try.ntmps118
      go_wp2
      refine bodyPost_ret (v := .agg #[.int .i64 t.k, .int .i64 t.n, .string t.s, .slice none 0 0]) (results_cell_row Try.results118 _ _ (w.heap.size + 1) _ _ _ _ rfl (heap_alloc2_new w _ _) Try.underlying49 rfl (by kernel_rfl)) rfl ⟨none, 0, by unfold aggT; rw [HT.out], IsTm.mk' (IsSl.mk' fun i hi => absurd hi (by have := HT.out; omega)), (two w _ _).2.2.2⟩
    · have b0 : ((t.args.length : Int) == 0) = false := by simpa using h0
      have hb0 : 0 ≤ (t.args.length : Int) := by omega
      have hb1 : (t.args.length : Int) ≤ 1000000000 := by omega
      obtain ⟨i0, hti, hz0, hz1, hz2⟩ := info_parts info_term
      clear h ih
      go_enter Try.func118, Try.ntmps118
      go_wp2_with (with_reducible show wpList _ _ _ (⟨some 15, _, _, _, _, _⟩ :: _) _ _
                   go_must (
                     refine wpList_make_full _ rfl (.tmp 14) (.tmp 14) 47 rfl w.heap.size 49 i0 _ 4 Try.underlying47 hti hz0 hz1 .i64 .i64 _ _ t.args.length rfl rfl rfl rfl (by rw [hz2]; omega) (by unfold maxLen; omega) (by omega) ?_
                     intro wA hown hgr
                     rw [w3] at hown
                     obtain ⟨row, hrow, hrs⟩ := own_row hown
                     have hbx := (hgr.block w.heap.size (by omega) (by simp)).trans w1
                     have hrz := (hgr.block (w.heap.size + 1) (by omega) (by simp)).trans w2
                     have hbl := w4.grown hgr (by omega) (by simp)
                     clear hown hgr x0 x1 x2 x3
                     have hst : OwRel t w a c (.int .i64 ((0 : Nat) : Int)) wA := ⟨⟨0, by omega, rfl, Fill.start hrow hrs⟩, hbx, hrz, hbl⟩
                     have HST := Lib.hid hst
                     obtain ⟨x0, x1, x2, x3⟩ := row4 hbx
                     clear hst hrow hrs hbx hrz hbl w1 w2 w3 w4 hz0 hz1 hz2 hti))
      clear x0 x1 x2 x3
      go_loopw [19] (fun v19 wr => OwRel t w a c v19 wr) (fun v19 _ => t.args.length - (intOf v19).toNat)
      case atStart => exact HST.out
      case round =>
        clear HST
        obtain ⟨⟨r, hr, rfl, hfill⟩, hbx, hrz, hbl⟩ := hrel
        have HF := Lib.hid hfill
        have HBX := Lib.hid hbx
        have HRZ := Lib.hid hrz
        have HBL := Lib.hid hbl
        clear hfill hbx hrz hbl
        by_cases hrn : r < t.args.length
        · have b1 : decide ((r : Int) < (t.args.length : Int)) = true := by simp; omega
          obtain ⟨bk, off, e1, hbk, hat⟩ := (H.out.args.below HBL.out).at r hrn
          subst e1
          obtain ⟨T, hT⟩ : ∃ T, T = t.args[r] := ⟨_, rfl⟩
          rw [← hT] at hat
          have hTs : T.size ≤ N ∧ T.size ≤ 1000000000 := by
            have := size_mem hrn
            rw [← hT] at this
            obtain ⟨_, _, _, l⟩ := t
            simp only [Tm.size, Tm.args] at hN hM this
            omega
          have htk : t.args.take (r + 1) = t.args.take r ++ [T] := by rw [List.take_succ_eq_append_getElem hrn, hT]
          obtain ⟨qa, qc, y0, y1, y2, y3, hit, hbw⟩ := hat.read
          have hba : Below wr.heap.size wr (wr.alloc (.cells #[.int .i64 T.k, .int .i64 T.n, .string T.s, .slice qa T.args.length qc] 49 (0, 0))) := (Below.refl _ _).alloc (Nat.le_refl _) _
          have hsz := HBL.out.size
          have hlf := HF.out.lt
          have HC := Lib.hid (IH.out T _ _ _ hTs.1 hTs.2 (hit.below hba))
          have hfl := HF.out.keep (w' := wr.alloc (.cells #[.int .i64 T.k, .int .i64 T.n, .string T.s, .slice qa T.args.length qc] 49 (0, 0))) (fun b hb _ => hba.block b hb) (hba.block _ hlf)
          have HF2 := Lib.hid hfl
          have HX2 := Lib.hid ((hba.block _ (Array.getElem?_eq_some_iff.1 HBX.out).1).trans HBX.out)
          have HZ2 := Lib.hid ((hba.block _ (Array.getElem?_eq_some_iff.1 HRZ.out).1).trans HRZ.out)
          have HL2 := Lib.hid (HBL.out.trans (hba.mono hsz))
          have HTK := Lib.hid htk
          obtain ⟨z0, z1, z2, z3⟩ := row4 (heap_alloc_new wr (.cells #[.int .i64 T.k, .int .i64 T.n, .string T.s, .slice qa T.args.length qc] 49 (0, 0)))
          have hzs : (wr.alloc (.cells #[.int .i64 T.k, .int .i64 T.n, .string T.s, .slice qa T.args.length qc] 49 (0, 0))).heap.size = wr.heap.size + 1 := by simp
          have HZS := Lib.hid hzs
          clear hT hTs hat htk hit hba hsz hfl HF HBX HRZ HBL hzs
          go_wp2_with fail
          refine HC.out.mono ?_
          rintro e9 w9 ⟨ta, tc, rfl, hi9, hb9⟩
          have hk9 := HF2.out.keep (w' := w9) (fun b hb _ => hb9.block b hb) (hb9.block _ HF2.out.lt)
          obtain ⟨hth, hf10, hk10⟩ := hk9.put (t := T) (a := ta) (c := tc) (q := r) (by rw [List.length_take]; omega) hrn (hi9.imp (fun b hb => ⟨by have := HZS.out; omega, by have := HZS.out; omega⟩) fun _ _ _ => rfl)
          rw [← HTK.out] at hf10
          have hs9 := hb9.size
          have hx3 := (hk10.block _ (by have := (Array.getElem?_eq_some_iff.1 HX2.out).1; omega) (by omega)).trans ((hb9.block _ (Array.getElem?_eq_some_iff.1 HX2.out).1).trans HX2.out)
          have hz3 := (hk10.block _ (by have := (Array.getElem?_eq_some_iff.1 HZ2.out).1; omega) (by omega)).trans ((hb9.block _ (Array.getElem?_eq_some_iff.1 HZ2.out).1).trans HZ2.out)
          have HTH := Lib.hid hth
          have hbl9 := HL2.out.trans (hb9.mono HL2.out.size)
          have hbl10 := hbl9.trans (show Below w.heap.size w9 _ from ⟨hk10.os, hk10.tape, hk10.output, hk10.size, fun b hb => hk10.block b (by have := hbl9.size; omega) (by omega)⟩)
          have HRL := Lib.hid (show OwRel t w _ c (.int .i64 ((r + 1 : Nat) : Int)) _ from ⟨⟨r + 1, by omega, rfl, hf10⟩, hx3, hz3, hbl10⟩)
          unfold aggT
          clear hi9 hb9 hk9 hth hf10 hk10 hs9 hx3 hz3 hbl9 hbl10 HF2 HX2 HZ2 HL2 HTK HC HZS z0 z1 z2 z3 y0 y1 y2 y3
          go_wp2_with (with_reducible show wpList _ _ _ (⟨none, .store _ (.tmp 28) _, _, _, _, _⟩ :: _) _ _
                       refine wpList_store_mid rfl 49 (.tmp 28) (.tmp 27) rfl (w.heap.size + 2) (r * 4) #[.int .i64 T.k, .int .i64 T.n, .string T.s, .slice ta T.args.length tc] rfl rfl HTH.out size_term (one4 _ _ _ _ _ _) ?_)
          go_roundw
          case measure => simp [intOf]; omega
          case rel => exact HRL.out
        · have b1 : decide ((r : Int) < (t.args.length : Int)) = false := by simp; omega
          have e : r = t.args.length := by omega
          subst e
          rw [List.take_length] at HF
          obtain ⟨x0, x1, x2, x3⟩ := row4 HBX.out
          have hfz : wr.frozen? ⟨w.heap.size, 3, none⟩ = false := frozen_of_row wr w.heap.size _ _ _ HBX.out
          have hlf := HF.out.lt
          have hoth : ∀ b, b ≠ w.heap.size → (wr.setCell ⟨w.heap.size, 3, none⟩ (.slice (some ⟨w.heap.size + 2, 0, none⟩) t.args.length t.args.length)).heap[b]? = wr.heap[b]? := fun b hb => Below.heap_setCell _ _ _ _ hb
          have hbx : (wr.setCell ⟨w.heap.size, 3, none⟩ (.slice (some ⟨w.heap.size + 2, 0, none⟩) t.args.length t.args.length)).heap[w.heap.size]? = some (.cells #[.int .i64 t.k, .int .i64 t.n, .string t.s, .slice (some ⟨w.heap.size + 2, 0, none⟩) t.args.length t.args.length] 49 (0, 0)) := heap_setCell_same wr w.heap.size 3 _ _ (.slice (some ⟨w.heap.size + 2, 0, none⟩) t.args.length t.args.length) HBX.out
          have hrz := (hoth (w.heap.size + 1) (by omega)).trans HRZ.out
          have hsl := (HF.out.sl rfl (Nat.le_refl _)).imp (P' := fun b => w.heap.size + 2 ≤ b) (w' := wr.setCell ⟨w.heap.size, 3, none⟩ (.slice (some ⟨w.heap.size + 2, 0, none⟩) t.args.length t.args.length)) (fun b h => h) (fun b hb _ => hoth b (by omega))
          have hbl : Below w.heap.size w (wr.setCell ⟨w.heap.size, 3, none⟩ (.slice (some ⟨w.heap.size + 2, 0, none⟩) t.args.length t.args.length)) := HBL.out.setCell (Nat.le_refl _) _
          have HX3 := Lib.hid hbx
          have HZ3 := Lib.hid hrz
          have HS3 := Lib.hid hsl
          have HL3 := Lib.hid hbl
          clear hoth hbx hrz hsl hbl HF HBX HRZ HBL
          go_upto_region 11 with fail
          generalize wr.setCell ⟨w.heap.size, 3, none⟩ (.slice (some ⟨w.heap.size + 2, 0, none⟩) t.args.length t.args.length) = W4 at *
          clear x0 x1 x2 x3 hfz
          obtain ⟨x0, x1, x2, x3⟩ := row4 HX3.out
          go_wp2_with (with_reducible show wpList _ _ _ (⟨none, .store _ (.tmp 2) _, _, _, _, _⟩ :: _) _ _
                       refine wpList_store_row rfl 49 (.tmp 2) (.tmp 32) rfl (w.heap.size + 1) #[.int .i64 t.k, .int .i64 t.n, .string t.s, .slice (some ⟨w.heap.size + 2, 0, none⟩) t.args.length t.args.length] rfl rfl _ _ HZ3.out size_term rfl (one4 _ _ _ _ _ _) ?_)
          have hz := setRow_heap W4 (w.heap.size + 1) _ (#[.int .i64 t.k, .int .i64 t.n, .string t.s, .slice (some ⟨w.heap.size + 2, 0, none⟩) t.args.length t.args.length] : Array Value) _ _ HZ3.out
          have hl := HL3.out
          refine bodyPost_ret (v := .agg #[.int .i64 t.k, .int .i64 t.n, .string t.s, .slice (some ⟨w.heap.size + 2, 0, none⟩) t.args.length t.args.length]) (results_cell_row Try.results118 _ _ (w.heap.size + 1) _ _ _ _ rfl hz Try.underlying49 rfl (by kernel_rfl)) rfl ⟨some ⟨w.heap.size + 2, 0, none⟩, t.args.length, rfl, IsTm.mk' (HS3.out.imp (fun b h => by omega) fun b hb _ => setRow_other _ _ _ _ (by omega)), ⟨hl.os, hl.tape, hl.output, by simpa using hl.size, fun b hb => (setRow_other _ _ _ _ (by omega)).trans (hl.block b hb)⟩⟩
end Go.Proofs.Ytkhchmgdaolojaa.Tms
