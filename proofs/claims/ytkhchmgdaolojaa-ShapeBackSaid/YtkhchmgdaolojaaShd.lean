
/-
  Layer 17: Do, of the names that ask a term's kind.
-/
import Derived.Test.YtkhchmgdaolojaaSht
import Derived.Test.YtkhchmgdaolojaaMsd
namespace Go.Proofs.Ytkhchmgdaolojaa.Tms
open Go Go.RowKit Go.Proofs.Ytkhchmgdaolojaa.Reg Go.Proofs.Ytkhchmgdaolojaa.Rws Go.Proofs.Ytkhchmgdaolojaa.Maps Go.Instr
set_option linter.unusedVariables false
set_option linter.unusedSimpArgs false

theorem shk_n {s : ByteArray} {g : Int → Bool} (h : ShK s g) : ShN s 1 := by
  cases h
  · exact .s0
  · exact .s1
  · exact .s2
  · exact .s3
  · exact .s4
  · exact .s5
  · exact .s6
theorem shk_ord {s : ByteArray} {g : Int → Bool} (h : ShK s g) : findNow .string (.string s) ordE.toList 0 = some none := by
  cases h <;> kernel_rfl
theorem shk_blt {s : ByteArray} {g : Int → Bool} (h : ShK s g) (cv : Value) : ∃ i, findNow .string (.string s) (blt cv).toList 0 = some (some (i, .func (.func 83) #[cv] #[])) := by
  cases h
  · exact ⟨0, by kernel_rfl⟩
  · exact ⟨1, by kernel_rfl⟩
  · exact ⟨2, by kernel_rfl⟩
  · exact ⟨3, by kernel_rfl⟩
  · exact ⟨4, by kernel_rfl⟩
  · exact ⟨5, by kernel_rfl⟩
  · exact ⟨6, by kernel_rfl⟩
def DoRel (n : Nat) (w : World) (vi : Value) (wr : World) : Prop := ∃ i : Nat, i ≤ n ∧ vi = .int .i64 i ∧ Below w.heap.size w wr
set_option maxRecDepth 100000 in
set_option maxHeartbeats 4000000 in
theorem sh_Do_sort {s : ByteArray} {g : Int → Bool} (hk : ShK s g) (t : Tm) (P : Nat → Prop) (w : World) (a : Option Addr) (c : Nat) (h : IsSl w P (.slice a 1 c) [t]) (hM : t.size ≤ 1000000000) (hc : checkT t = 0) :
    Calls Try.prog 28 #[.string s, .slice a 1 c] w (fun e w' => e = .returned (.tuple #[didB (g t.k), .int .i64 0]) ∧ Below w.heap.size w w') := by
  have H := Lib.hid h
  have HK := Lib.hid hk
  obtain ⟨bi, hbi⟩ := shk_blt hk (.agg #[.string s, .slice a 1 c])
  have HBI := Lib.hid hbi
  clear h hk hbi
  have hb0 : Below w.heap.size w (w.alloc (.cells #[.bool false, .slice none 0 0, .slice none 0 0, .int .i64 0, .int .i64 0, .string ⟨#[]⟩, .slice none 0 0] 71 (0, 0))) := (Below.refl _ _).alloc (Nat.le_refl _) _
  have HB0 := Lib.hid hb0
  have HR0 := Lib.hid (heap_alloc_new w (.cells #[.bool false, .slice none 0 0, .slice none 0 0, .int .i64 0, .int .i64 0, .string ⟨#[]⟩, .slice none 0 0] 71 (0, 0)))
  clear hb0
  go_enter Try.func28, Try.ntmps28
  go_wp2_with fail
  refine (sh_Does (shk_n HK.out) _).mono ?_
  rintro e1 w1 ⟨rfl, rfl⟩
  generalize w.alloc (.cells #[.bool false, .slice none 0 0, .slice none 0 0, .int .i64 0, .int .i64 0, .string ⟨#[]⟩, .slice none 0 0] 71 (0, 0)) = W0 at *
  have HST := Lib.hid (show DoRel 1 W0 (.int .i64 ((0 : Nat) : Int)) W0 from ⟨0, by omega, rfl, Below.refl _ _⟩)
  go_wp2
  go_loopw [19] (fun v19 wr => DoRel 1 W0 v19 wr) (fun v19 _ => 1 - (intOf v19).toNat)
  case atStart => exact HST.out
  case round =>
    clear HST
    obtain ⟨i, hi, rfl, hbl⟩ := hrel
    have HBL := Lib.hid hbl
    clear hbl
    by_cases hin : i < 1
    · obtain rfl : i = 0 := by omega
      obtain ⟨b, off, e1, -, hat⟩ := (H.out.below ((HB0.out.trans (HBL.out.mono HB0.out.size)))).at 0 (by simp)
      subst e1
      simp only [List.getElem_cons_zero, Nat.zero_mul, Nat.add_zero] at hat
      obtain ⟨qa, qc, y0, y1, y2, y3, hit, hbw⟩ := hat.read
      have hba : Below wr.heap.size wr (wr.alloc (.cells #[.int .i64 t.k, .int .i64 t.n, .string t.s, .slice qa t.args.length qc] 49 (0, 0))) := (Below.refl _ _).alloc (Nat.le_refl _) _
      have HIT := Lib.hid (hit.below hba)
      have HBA := Lib.hid (HBL.out.trans (hba.mono HBL.out.size))
      clear hat hit hba HBL
      go_wp2_with fail
      refine (tm_Check t _ _ _ hM HIT.out).mono ?_
      rintro e9 w9 ⟨rfl, hb9⟩
      rw [hc]
      have HRL := Lib.hid (show DoRel 1 W0 (.int .i64 ((0 + 1 : Nat) : Int)) w9 from ⟨1, by omega, rfl, HBA.out.trans (hb9.mono HBA.out.size)⟩)
      clear hb9 HBA HIT
      go_wp2
      go_roundw
      case measure => simp [intOf]
      case rel => exact HRL.out
    · have b1 : decide ((i : Int) < 1) = false := by simp; omega
      have hb1 := HB0.out.trans (HBL.out.mono HB0.out.size)
      have hr1 := (HBL.out.block _ (Array.getElem?_eq_some_iff.1 HR0.out).1).trans HR0.out
      have HB1 := Lib.hid hb1
      have HR1 := Lib.hid hr1
      clear hb1 hr1 HB0 HR0 HBL
      go_wp2_with fail
      refine (sh_orders _).mono ?_
      rintro e2 w2 ⟨ob, rfl, hob, hom, hb2⟩
      have HB2 := Lib.hid (HB1.out.trans (hb2.mono HB1.out.size))
      have HR2 := Lib.hid ((hb2.block _ (Array.getElem?_eq_some_iff.1 HR1.out).1).trans HR1.out)
      have HOM := Lib.hid hom
      have HFO := Lib.hid (shk_ord HK.out)
      clear hob hom hb2 HB1 HR1
      go_wp2_with (with_reducible show wpList _ _ _ (⟨some 33, _, _, _, _, _⟩ :: _) _ _
                   go_must (
                     refine wpList_lookup_now rfl 134 (.tmp 31) (.tmp 32) rfl _ _ _ Try.underlying134 Try.underlying9 rfl ob _ _ rfl HOM.out none HFO.out .nilFunc (fun _ => rfl) ?_
                     clear HOM HFO))
      refine (sh_builtins _ _ _ _ _).mono ?_
      rintro e3 w3 ⟨mb, rfl, hmb, hmm, hb3⟩
      have HB3 := Lib.hid (HB2.out.trans (hb3.mono HB2.out.size))
      have HR3 := Lib.hid ((hb3.block _ (Array.getElem?_eq_some_iff.1 HR2.out).1).trans HR2.out)
      have HMM := Lib.hid hmm
      clear hmb hmm hb3 HB2 HR2
      go_wp2_with (with_reducible show wpList _ _ _ (⟨some 52, _, _, _, _, _⟩ :: _) _ _
                   go_must (
                     refine wpList_lookup_val rfl 138 (.tmp 50) (.tmp 51) rfl _ _ _ Try.underlying138 Try.underlying9 rfl mb _ _ rfl HMM.out _ HBI.out ?_
                     clear HMM HBI))
      refine (sh_sort HK.out t P w3 a c (H.out.below HB3.out)).mono ?_
      rintro e4 w4 ⟨rfl, hb4⟩
      have HB4 := Lib.hid (HB3.out.trans (hb4.mono HB3.out.size))
      have HR4 := Lib.hid ((hb4.block _ (Array.getElem?_eq_some_iff.1 HR3.out).1).trans HR3.out)
      clear hb4 HB3 HR3
      unfold didB
      go_wp2_with (with_reducible show wpList _ _ _ (⟨none, .store _ (.tmp 4) _, _, _, _, _⟩ :: _) _ _
                   go_must (
                     refine wpList_store_row rfl 71 (.tmp 4) (.tmp 53) rfl w.heap.size #[.bool (g t.k), .slice none 0 0, .slice none 0 0, .int .i64 0, .int .i64 0, .string ⟨#[]⟩, .slice none 0 0] rfl rfl _ _ HR4.out size_did rfl (one7 _ _ _ _ _ _ _) ?_))
      have hz := setRow_heap w4 w.heap.size _ (#[.bool (g t.k), .slice none 0 0, .slice none 0 0, .int .i64 0, .int .i64 0, .string ⟨#[]⟩, .slice none 0 0] : Array Value) _ _ HR4.out
      have hl := HB4.out
      exact bodyPost_ret (v := .tuple #[.agg #[.bool (g t.k), .slice none 0 0, .slice none 0 0, .int .i64 0, .int .i64 0, .string ⟨#[]⟩, .slice none 0 0], .int .i64 0]) (Push.results_cell_tmp Try.results28 _ _ w.heap.size _ #[.bool (g t.k), .slice none 0 0, .slice none 0 0, .int .i64 0, .int .i64 0, .string ⟨#[]⟩, .slice none 0 0] _ _ _ rfl (by simp) hz Try.underlying71 rfl (by kernel_rfl)) rfl ⟨rfl, ⟨hl.os, hl.tape, hl.output, by simpa using hl.size, fun b hb => (setRow_other _ _ _ _ (by omega)).trans (hl.block b hb)⟩⟩
end Go.Proofs.Ytkhchmgdaolojaa.Tms
