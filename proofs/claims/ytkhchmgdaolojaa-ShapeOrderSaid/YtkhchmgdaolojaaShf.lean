
/-
  Layer 17: Do, of the six orders.
-/
import Derived.Test.YtkhchmgdaolojaaShe
import Derived.Test.YtkhchmgdaolojaaCmp
namespace Go.Proofs.Ytkhchmgdaolojaa.Tms
open Go Go.RowKit Go.Proofs.Ytkhchmgdaolojaa.Reg Go.Proofs.Ytkhchmgdaolojaa.Rws Go.Proofs.Ytkhchmgdaolojaa.Maps Go.Instr
set_option linter.unusedVariables false
set_option linter.unusedSimpArgs false

set_option maxRecDepth 100000 in
set_option maxHeartbeats 4000000 in
theorem sh_Do_o0 (hk : ShO ⟨#[61, 61]⟩ 76 (fun n => n == 0) 0) (t u : Tm) (P : Nat → Prop) (w : World) (a : Option Addr) (c : Nat) (h : IsSl w P (.slice a 2 c) [t, u]) (hM : t.size ≤ 1000000000) (hc : checkT t = 0) (hM' : u.size ≤ 1000000000) (hc' : checkT u = 0) :
    Calls Try.prog 28 #[.string ⟨#[61, 61]⟩, .slice a 2 c] w (fun e w' => e = .returned (.tuple #[didB ((fun n => n == 0) (cmpT t u)), .int .i64 0]) ∧ Below w.heap.size w w') := by
  have H := Lib.hid h
  have HK := Lib.hid hk
  clear h hk
  have hb0 : Below w.heap.size w (w.alloc (.cells #[.bool false, .slice none 0 0, .slice none 0 0, .int .i64 0, .int .i64 0, .string ⟨#[]⟩, .slice none 0 0] 71 (0, 0))) := (Below.refl _ _).alloc (Nat.le_refl _) _
  have HB0 := Lib.hid hb0
  have HR0 := Lib.hid (heap_alloc_new w (.cells #[.bool false, .slice none 0 0, .slice none 0 0, .int .i64 0, .int .i64 0, .string ⟨#[]⟩, .slice none 0 0] 71 (0, 0)))
  clear hb0
  go_enter Try.func28, Try.ntmps28
  go_wp2_with fail
  refine (sh_Does (sho_n HK.out) _).mono ?_
  rintro e1 w1 ⟨rfl, rfl⟩
  generalize w.alloc (.cells #[.bool false, .slice none 0 0, .slice none 0 0, .int .i64 0, .int .i64 0, .string ⟨#[]⟩, .slice none 0 0] 71 (0, 0)) = W0 at *
  have HST := Lib.hid (show DoRel 2 W0 (.int .i64 ((0 : Nat) : Int)) W0 from ⟨0, by omega, rfl, Below.refl _ _⟩)
  go_wp2
  go_loopw [19] (fun v19 wr => DoRel 2 W0 v19 wr) (fun v19 _ => 2 - (intOf v19).toNat)
  case atStart => exact HST.out
  case round =>
    clear HST
    obtain ⟨i, hi, rfl, hbl⟩ := hrel
    have HBL := Lib.hid hbl
    clear hbl
    by_cases hin : i < 2
    · obtain ⟨T, hT⟩ : ∃ T, T = [t, u][i]'(by simpa using hin) := ⟨_, rfl⟩
      have hTs : T.size ≤ 1000000000 ∧ checkT T = 0 := by
        rcases (show i = 0 ∨ i = 1 by omega) with rfl | rfl
        · rw [hT]; exact ⟨hM, hc⟩
        · rw [hT]; exact ⟨hM', hc'⟩
      obtain ⟨b, off, e1, -, hat⟩ := (H.out.below ((HB0.out.trans (HBL.out.mono HB0.out.size)))).at i (by simpa using hin)
      rw [← hT] at hat
      subst e1
      have b1 : decide ((i : Int) < 2) = true := by simp; omega
      obtain ⟨qa, qc, y0, y1, y2, y3, hit, hbw⟩ := hat.read
      have hba : Below wr.heap.size wr (wr.alloc (.cells #[.int .i64 T.k, .int .i64 T.n, .string T.s, .slice qa T.args.length qc] 49 (0, 0))) := (Below.refl _ _).alloc (Nat.le_refl _) _
      have HIT := Lib.hid (hit.below hba)
      have HBA := Lib.hid (HBL.out.trans (hba.mono HBL.out.size))
      clear hat hit hba HBL hT
      go_wp2_with fail
      refine (tm_Check T _ _ _ hTs.1 HIT.out).mono ?_
      rintro e9 w9 ⟨rfl, hb9⟩
      rw [hTs.2]
      have HRL := Lib.hid (show DoRel 2 W0 (.int .i64 ((i + 1 : Nat) : Int)) w9 from ⟨i + 1, by omega, rfl, HBA.out.trans (hb9.mono HBA.out.size)⟩)
      clear hb9 HBA HIT
      go_wp2
      go_roundw
      case measure => simp [intOf]; omega
      case rel => exact HRL.out
    · have b1 : decide ((i : Int) < 2) = false := by simp; omega
      have hb1 := HB0.out.trans (HBL.out.mono HB0.out.size)
      have hr1 := (HBL.out.block _ (Array.getElem?_eq_some_iff.1 HR0.out).1).trans HR0.out
      have HB1 := Lib.hid hb1
      have HR1 := Lib.hid hr1
      clear hb1 hr1 HB0 HR0 HBL
      go_wp2_with fail
      refine (sh_orders _).mono ?_
      rintro e2 w2 ⟨ob, rfl, hob, hom, hb2⟩
      have HB2 := Lib.hid (HB1.out.trans (hb2.mono HB1.out.size))
      have HR2 := Lib.hid ((hb2.block _ (Array.getElem?_eq_some_iff.1 HR1.out).1).trans HR1.out)
      have HOM := Lib.hid hom
      have HFO := Lib.hid (sho_ord HK.out)
      clear hob hom hb2 HB1 HR1
      go_wp2_with (with_reducible show wpList _ _ _ (⟨some 33, _, _, _, _, _⟩ :: _) _ _
                   go_must (
                     refine wpList_lookup_now rfl 134 (.tmp 31) (.tmp 32) rfl _ _ _ Try.underlying134 Try.underlying9 rfl ob _ _ rfl HOM.out _ HFO.out .nilFunc (fun _ => rfl) ?_
                     clear HOM HFO))
      go_upto_region 12 with fail
      refine wp_region_rest (by kernel_rfl) ?_
      have hd := (Below.refl w2.heap.size w2).drew
      have HB3 := Lib.hid (HB2.out.trans (hd.mono HB2.out.size))
      have HR3 := Lib.hid ((hd.block _ (Array.getElem?_eq_some_iff.1 HR2.out).1).trans HR2.out)
      clear hd HB2 HR2
      generalize w2.drew = W3 at *
      obtain ⟨b, off, e1, -, hat⟩ := (H.out.below HB3.out).at 0 (by simp)
      obtain ⟨b', off', e2, -, hat'⟩ := (H.out.below HB3.out).at 1 (by simp)
      have e3 := e1.symm.trans e2
      simp only [Option.some.injEq, Addr.mk.injEq, and_true] at e3
      obtain ⟨rfl, rfl⟩ := e3
      subst e1
      simp only [List.getElem_cons_zero, List.getElem_cons_succ, Nat.zero_mul, Nat.add_zero, Nat.one_mul] at hat hat'
      obtain ⟨qa, qc, y0, y1, y2, y3, hit, hbw⟩ := hat.read
      obtain ⟨qa', qc', z0, z1, z2, z3, hit', hbw'⟩ := hat'.read
      have HIT := Lib.hid hit
      have HIT' := Lib.hid hit'
      clear hat hat' hit hit' e2
      refine rest_chain 0 10 [(false, [0, 1, 2, 3, 4, 5, 6]), (true, [7]), (true, [8]), (false, [9])] [(false, [_, _, _, _, _, _, _]), (true, [_]), (true, [_]), (false, [_])] rfl (by kernel_rfl) (by kernel_rfl) rfl (by kernel_rfl) (by kernel_rfl) (.inr (by kernel_rfl)) ?_
      refine chain_soft ?_
      intro E hE
      go_wp2
      clear y0 y1 y2 y3 z0 z1 z2 z3
      refine chain_one ?_
      intro E hE
      go_wp2_with (refine (tm_Compare t u _ _ _ _ _ hM hM' HIT.out HIT'.out).mono ?_; rintro e5 w5 ⟨rfl, hb5⟩; have HB5 := Lib.hid hb5; clear hb5)
      refine ⟨HB5.out, ?_⟩
      refine chain_one ?_
      intro E hE
      go_wp2_with (refine (sho_call HK.out (cmpT t u) _).mono ?_; rintro e6 w6 ⟨rfl, rfl⟩)
      refine ⟨Below.refl _ _, ?_⟩
      refine chain_soft ?_
      intro E hE
      go_wp2
      refine chain_nil ?_
      have HB4 := Lib.hid (HB3.out.trans (HB5.out.mono HB3.out.size))
      have HR4 := Lib.hid ((HB5.out.block _ (Array.getElem?_eq_some_iff.1 HR3.out).1).trans HR3.out)
      clear HB5 HB3 HR3
      refine rest_lineL 10 12 [_, _] rfl (by kernel_rfl) (by decide) (by decide) (by kernel_rfl) ?_
      go_wp2_with (with_reducible show wpList _ _ _ (⟨none, .store _ (.tmp 4) _, _, _, _, _⟩ :: _) _ _
                   go_must (
                     refine wpList_store_row rfl 71 (.tmp 4) (.tmp 46) rfl w.heap.size #[.bool ((fun n => n == 0) (cmpT t u)), .slice none 0 0, .slice none 0 0, .int .i64 0, .int .i64 0, .string ⟨#[]⟩, .slice none 0 0] rfl rfl _ _ HR4.out size_did rfl (one7 _ _ _ _ _ _ _) ?_))
      refine then_rest (rest_end (by decide) ?_)
      go_wp2
      have hz := setRow_heap w5 w.heap.size _ (#[.bool ((fun n => n == 0) (cmpT t u)), .slice none 0 0, .slice none 0 0, .int .i64 0, .int .i64 0, .string ⟨#[]⟩, .slice none 0 0] : Array Value) _ _ HR4.out
      have hl := HB4.out
      exact bodyPost_ret (v := .tuple #[.agg #[.bool ((fun n => n == 0) (cmpT t u)), .slice none 0 0, .slice none 0 0, .int .i64 0, .int .i64 0, .string ⟨#[]⟩, .slice none 0 0], .int .i64 0]) (Push.results_cell_tmp Try.results28 _ _ w.heap.size _ #[.bool ((fun n => n == 0) (cmpT t u)), .slice none 0 0, .slice none 0 0, .int .i64 0, .int .i64 0, .string ⟨#[]⟩, .slice none 0 0] _ _ _ rfl (by simp) hz Try.underlying71 rfl (by kernel_rfl)) rfl ⟨rfl, ⟨hl.os, hl.tape, hl.output, by simpa using hl.size, fun b hb => (setRow_other _ _ _ _ (by omega)).trans (hl.block b hb)⟩⟩
set_option maxRecDepth 100000 in
set_option maxHeartbeats 4000000 in
theorem sh_Do_o1 (hk : ShO ⟨#[92, 61, 61]⟩ 77 (fun n => n != 0) 1) (t u : Tm) (P : Nat → Prop) (w : World) (a : Option Addr) (c : Nat) (h : IsSl w P (.slice a 2 c) [t, u]) (hM : t.size ≤ 1000000000) (hc : checkT t = 0) (hM' : u.size ≤ 1000000000) (hc' : checkT u = 0) :
    Calls Try.prog 28 #[.string ⟨#[92, 61, 61]⟩, .slice a 2 c] w (fun e w' => e = .returned (.tuple #[didB ((fun n => n != 0) (cmpT t u)), .int .i64 0]) ∧ Below w.heap.size w w') := by
  have H := Lib.hid h
  have HK := Lib.hid hk
  clear h hk
  have hb0 : Below w.heap.size w (w.alloc (.cells #[.bool false, .slice none 0 0, .slice none 0 0, .int .i64 0, .int .i64 0, .string ⟨#[]⟩, .slice none 0 0] 71 (0, 0))) := (Below.refl _ _).alloc (Nat.le_refl _) _
  have HB0 := Lib.hid hb0
  have HR0 := Lib.hid (heap_alloc_new w (.cells #[.bool false, .slice none 0 0, .slice none 0 0, .int .i64 0, .int .i64 0, .string ⟨#[]⟩, .slice none 0 0] 71 (0, 0)))
  clear hb0
  go_enter Try.func28, Try.ntmps28
  go_wp2_with fail
  refine (sh_Does (sho_n HK.out) _).mono ?_
  rintro e1 w1 ⟨rfl, rfl⟩
  generalize w.alloc (.cells #[.bool false, .slice none 0 0, .slice none 0 0, .int .i64 0, .int .i64 0, .string ⟨#[]⟩, .slice none 0 0] 71 (0, 0)) = W0 at *
  have HST := Lib.hid (show DoRel 2 W0 (.int .i64 ((0 : Nat) : Int)) W0 from ⟨0, by omega, rfl, Below.refl _ _⟩)
  go_wp2
  go_loopw [19] (fun v19 wr => DoRel 2 W0 v19 wr) (fun v19 _ => 2 - (intOf v19).toNat)
  case atStart => exact HST.out
  case round =>
    clear HST
    obtain ⟨i, hi, rfl, hbl⟩ := hrel
    have HBL := Lib.hid hbl
    clear hbl
    by_cases hin : i < 2
    · obtain ⟨T, hT⟩ : ∃ T, T = [t, u][i]'(by simpa using hin) := ⟨_, rfl⟩
      have hTs : T.size ≤ 1000000000 ∧ checkT T = 0 := by
        rcases (show i = 0 ∨ i = 1 by omega) with rfl | rfl
        · rw [hT]; exact ⟨hM, hc⟩
        · rw [hT]; exact ⟨hM', hc'⟩
      obtain ⟨b, off, e1, -, hat⟩ := (H.out.below ((HB0.out.trans (HBL.out.mono HB0.out.size)))).at i (by simpa using hin)
      rw [← hT] at hat
      subst e1
      have b1 : decide ((i : Int) < 2) = true := by simp; omega
      obtain ⟨qa, qc, y0, y1, y2, y3, hit, hbw⟩ := hat.read
      have hba : Below wr.heap.size wr (wr.alloc (.cells #[.int .i64 T.k, .int .i64 T.n, .string T.s, .slice qa T.args.length qc] 49 (0, 0))) := (Below.refl _ _).alloc (Nat.le_refl _) _
      have HIT := Lib.hid (hit.below hba)
      have HBA := Lib.hid (HBL.out.trans (hba.mono HBL.out.size))
      clear hat hit hba HBL hT
      go_wp2_with fail
      refine (tm_Check T _ _ _ hTs.1 HIT.out).mono ?_
      rintro e9 w9 ⟨rfl, hb9⟩
      rw [hTs.2]
      have HRL := Lib.hid (show DoRel 2 W0 (.int .i64 ((i + 1 : Nat) : Int)) w9 from ⟨i + 1, by omega, rfl, HBA.out.trans (hb9.mono HBA.out.size)⟩)
      clear hb9 HBA HIT
      go_wp2
      go_roundw
      case measure => simp [intOf]; omega
      case rel => exact HRL.out
    · have b1 : decide ((i : Int) < 2) = false := by simp; omega
      have hb1 := HB0.out.trans (HBL.out.mono HB0.out.size)
      have hr1 := (HBL.out.block _ (Array.getElem?_eq_some_iff.1 HR0.out).1).trans HR0.out
      have HB1 := Lib.hid hb1
      have HR1 := Lib.hid hr1
      clear hb1 hr1 HB0 HR0 HBL
      go_wp2_with fail
      refine (sh_orders _).mono ?_
      rintro e2 w2 ⟨ob, rfl, hob, hom, hb2⟩
      have HB2 := Lib.hid (HB1.out.trans (hb2.mono HB1.out.size))
      have HR2 := Lib.hid ((hb2.block _ (Array.getElem?_eq_some_iff.1 HR1.out).1).trans HR1.out)
      have HOM := Lib.hid hom
      have HFO := Lib.hid (sho_ord HK.out)
      clear hob hom hb2 HB1 HR1
      go_wp2_with (with_reducible show wpList _ _ _ (⟨some 33, _, _, _, _, _⟩ :: _) _ _
                   go_must (
                     refine wpList_lookup_now rfl 134 (.tmp 31) (.tmp 32) rfl _ _ _ Try.underlying134 Try.underlying9 rfl ob _ _ rfl HOM.out _ HFO.out .nilFunc (fun _ => rfl) ?_
                     clear HOM HFO))
      go_upto_region 12 with fail
      refine wp_region_rest (by kernel_rfl) ?_
      have hd := (Below.refl w2.heap.size w2).drew
      have HB3 := Lib.hid (HB2.out.trans (hd.mono HB2.out.size))
      have HR3 := Lib.hid ((hd.block _ (Array.getElem?_eq_some_iff.1 HR2.out).1).trans HR2.out)
      clear hd HB2 HR2
      generalize w2.drew = W3 at *
      obtain ⟨b, off, e1, -, hat⟩ := (H.out.below HB3.out).at 0 (by simp)
      obtain ⟨b', off', e2, -, hat'⟩ := (H.out.below HB3.out).at 1 (by simp)
      have e3 := e1.symm.trans e2
      simp only [Option.some.injEq, Addr.mk.injEq, and_true] at e3
      obtain ⟨rfl, rfl⟩ := e3
      subst e1
      simp only [List.getElem_cons_zero, List.getElem_cons_succ, Nat.zero_mul, Nat.add_zero, Nat.one_mul] at hat hat'
      obtain ⟨qa, qc, y0, y1, y2, y3, hit, hbw⟩ := hat.read
      obtain ⟨qa', qc', z0, z1, z2, z3, hit', hbw'⟩ := hat'.read
      have HIT := Lib.hid hit
      have HIT' := Lib.hid hit'
      clear hat hat' hit hit' e2
      refine rest_chain 0 10 [(false, [0, 1, 2, 3, 4, 5, 6]), (true, [7]), (true, [8]), (false, [9])] [(false, [_, _, _, _, _, _, _]), (true, [_]), (true, [_]), (false, [_])] rfl (by kernel_rfl) (by kernel_rfl) rfl (by kernel_rfl) (by kernel_rfl) (.inr (by kernel_rfl)) ?_
      refine chain_soft ?_
      intro E hE
      go_wp2
      clear y0 y1 y2 y3 z0 z1 z2 z3
      refine chain_one ?_
      intro E hE
      go_wp2_with (refine (tm_Compare t u _ _ _ _ _ hM hM' HIT.out HIT'.out).mono ?_; rintro e5 w5 ⟨rfl, hb5⟩; have HB5 := Lib.hid hb5; clear hb5)
      refine ⟨HB5.out, ?_⟩
      refine chain_one ?_
      intro E hE
      go_wp2_with (refine (sho_call HK.out (cmpT t u) _).mono ?_; rintro e6 w6 ⟨rfl, rfl⟩)
      refine ⟨Below.refl _ _, ?_⟩
      refine chain_soft ?_
      intro E hE
      go_wp2
      refine chain_nil ?_
      have HB4 := Lib.hid (HB3.out.trans (HB5.out.mono HB3.out.size))
      have HR4 := Lib.hid ((HB5.out.block _ (Array.getElem?_eq_some_iff.1 HR3.out).1).trans HR3.out)
      clear HB5 HB3 HR3
      refine rest_lineL 10 12 [_, _] rfl (by kernel_rfl) (by decide) (by decide) (by kernel_rfl) ?_
      go_wp2_with (with_reducible show wpList _ _ _ (⟨none, .store _ (.tmp 4) _, _, _, _, _⟩ :: _) _ _
                   go_must (
                     refine wpList_store_row rfl 71 (.tmp 4) (.tmp 46) rfl w.heap.size #[.bool ((fun n => n != 0) (cmpT t u)), .slice none 0 0, .slice none 0 0, .int .i64 0, .int .i64 0, .string ⟨#[]⟩, .slice none 0 0] rfl rfl _ _ HR4.out size_did rfl (one7 _ _ _ _ _ _ _) ?_))
      refine then_rest (rest_end (by decide) ?_)
      go_wp2
      have hz := setRow_heap w5 w.heap.size _ (#[.bool ((fun n => n != 0) (cmpT t u)), .slice none 0 0, .slice none 0 0, .int .i64 0, .int .i64 0, .string ⟨#[]⟩, .slice none 0 0] : Array Value) _ _ HR4.out
      have hl := HB4.out
      exact bodyPost_ret (v := .tuple #[.agg #[.bool ((fun n => n != 0) (cmpT t u)), .slice none 0 0, .slice none 0 0, .int .i64 0, .int .i64 0, .string ⟨#[]⟩, .slice none 0 0], .int .i64 0]) (Push.results_cell_tmp Try.results28 _ _ w.heap.size _ #[.bool ((fun n => n != 0) (cmpT t u)), .slice none 0 0, .slice none 0 0, .int .i64 0, .int .i64 0, .string ⟨#[]⟩, .slice none 0 0] _ _ _ rfl (by simp) hz Try.underlying71 rfl (by kernel_rfl)) rfl ⟨rfl, ⟨hl.os, hl.tape, hl.output, by simpa using hl.size, fun b hb => (setRow_other _ _ _ _ (by omega)).trans (hl.block b hb)⟩⟩
set_option maxRecDepth 100000 in
set_option maxHeartbeats 4000000 in
theorem sh_Do_o2 (hk : ShO ⟨#[64, 60]⟩ 78 (fun n => decide (n < 0)) 2) (t u : Tm) (P : Nat → Prop) (w : World) (a : Option Addr) (c : Nat) (h : IsSl w P (.slice a 2 c) [t, u]) (hM : t.size ≤ 1000000000) (hc : checkT t = 0) (hM' : u.size ≤ 1000000000) (hc' : checkT u = 0) :
    Calls Try.prog 28 #[.string ⟨#[64, 60]⟩, .slice a 2 c] w (fun e w' => e = .returned (.tuple #[didB ((fun n => decide (n < 0)) (cmpT t u)), .int .i64 0]) ∧ Below w.heap.size w w') := by
  have H := Lib.hid h
  have HK := Lib.hid hk
  clear h hk
  have hb0 : Below w.heap.size w (w.alloc (.cells #[.bool false, .slice none 0 0, .slice none 0 0, .int .i64 0, .int .i64 0, .string ⟨#[]⟩, .slice none 0 0] 71 (0, 0))) := (Below.refl _ _).alloc (Nat.le_refl _) _
  have HB0 := Lib.hid hb0
  have HR0 := Lib.hid (heap_alloc_new w (.cells #[.bool false, .slice none 0 0, .slice none 0 0, .int .i64 0, .int .i64 0, .string ⟨#[]⟩, .slice none 0 0] 71 (0, 0)))
  clear hb0
  go_enter Try.func28, Try.ntmps28
  go_wp2_with fail
  refine (sh_Does (sho_n HK.out) _).mono ?_
  rintro e1 w1 ⟨rfl, rfl⟩
  generalize w.alloc (.cells #[.bool false, .slice none 0 0, .slice none 0 0, .int .i64 0, .int .i64 0, .string ⟨#[]⟩, .slice none 0 0] 71 (0, 0)) = W0 at *
  have HST := Lib.hid (show DoRel 2 W0 (.int .i64 ((0 : Nat) : Int)) W0 from ⟨0, by omega, rfl, Below.refl _ _⟩)
  go_wp2
  go_loopw [19] (fun v19 wr => DoRel 2 W0 v19 wr) (fun v19 _ => 2 - (intOf v19).toNat)
  case atStart => exact HST.out
  case round =>
    clear HST
    obtain ⟨i, hi, rfl, hbl⟩ := hrel
    have HBL := Lib.hid hbl
    clear hbl
    by_cases hin : i < 2
    · obtain ⟨T, hT⟩ : ∃ T, T = [t, u][i]'(by simpa using hin) := ⟨_, rfl⟩
      have hTs : T.size ≤ 1000000000 ∧ checkT T = 0 := by
        rcases (show i = 0 ∨ i = 1 by omega) with rfl | rfl
        · rw [hT]; exact ⟨hM, hc⟩
        · rw [hT]; exact ⟨hM', hc'⟩
      obtain ⟨b, off, e1, -, hat⟩ := (H.out.below ((HB0.out.trans (HBL.out.mono HB0.out.size)))).at i (by simpa using hin)
      rw [← hT] at hat
      subst e1
      have b1 : decide ((i : Int) < 2) = true := by simp; omega
      obtain ⟨qa, qc, y0, y1, y2, y3, hit, hbw⟩ := hat.read
      have hba : Below wr.heap.size wr (wr.alloc (.cells #[.int .i64 T.k, .int .i64 T.n, .string T.s, .slice qa T.args.length qc] 49 (0, 0))) := (Below.refl _ _).alloc (Nat.le_refl _) _
      have HIT := Lib.hid (hit.below hba)
      have HBA := Lib.hid (HBL.out.trans (hba.mono HBL.out.size))
      clear hat hit hba HBL hT
      go_wp2_with fail
      refine (tm_Check T _ _ _ hTs.1 HIT.out).mono ?_
      rintro e9 w9 ⟨rfl, hb9⟩
      rw [hTs.2]
      have HRL := Lib.hid (show DoRel 2 W0 (.int .i64 ((i + 1 : Nat) : Int)) w9 from ⟨i + 1, by omega, rfl, HBA.out.trans (hb9.mono HBA.out.size)⟩)
      clear hb9 HBA HIT
      go_wp2
      go_roundw
      case measure => simp [intOf]; omega
      case rel => exact HRL.out
    · have b1 : decide ((i : Int) < 2) = false := by simp; omega
      have hb1 := HB0.out.trans (HBL.out.mono HB0.out.size)
      have hr1 := (HBL.out.block _ (Array.getElem?_eq_some_iff.1 HR0.out).1).trans HR0.out
      have HB1 := Lib.hid hb1
      have HR1 := Lib.hid hr1
      clear hb1 hr1 HB0 HR0 HBL
      go_wp2_with fail
      refine (sh_orders _).mono ?_
      rintro e2 w2 ⟨ob, rfl, hob, hom, hb2⟩
      have HB2 := Lib.hid (HB1.out.trans (hb2.mono HB1.out.size))
      have HR2 := Lib.hid ((hb2.block _ (Array.getElem?_eq_some_iff.1 HR1.out).1).trans HR1.out)
      have HOM := Lib.hid hom
      have HFO := Lib.hid (sho_ord HK.out)
      clear hob hom hb2 HB1 HR1
      go_wp2_with (with_reducible show wpList _ _ _ (⟨some 33, _, _, _, _, _⟩ :: _) _ _
                   go_must (
                     refine wpList_lookup_now rfl 134 (.tmp 31) (.tmp 32) rfl _ _ _ Try.underlying134 Try.underlying9 rfl ob _ _ rfl HOM.out _ HFO.out .nilFunc (fun _ => rfl) ?_
                     clear HOM HFO))
      go_upto_region 12 with fail
      refine wp_region_rest (by kernel_rfl) ?_
      have hd := (Below.refl w2.heap.size w2).drew
      have HB3 := Lib.hid (HB2.out.trans (hd.mono HB2.out.size))
      have HR3 := Lib.hid ((hd.block _ (Array.getElem?_eq_some_iff.1 HR2.out).1).trans HR2.out)
      clear hd HB2 HR2
      generalize w2.drew = W3 at *
      obtain ⟨b, off, e1, -, hat⟩ := (H.out.below HB3.out).at 0 (by simp)
      obtain ⟨b', off', e2, -, hat'⟩ := (H.out.below HB3.out).at 1 (by simp)
      have e3 := e1.symm.trans e2
      simp only [Option.some.injEq, Addr.mk.injEq, and_true] at e3
      obtain ⟨rfl, rfl⟩ := e3
      subst e1
      simp only [List.getElem_cons_zero, List.getElem_cons_succ, Nat.zero_mul, Nat.add_zero, Nat.one_mul] at hat hat'
      obtain ⟨qa, qc, y0, y1, y2, y3, hit, hbw⟩ := hat.read
      obtain ⟨qa', qc', z0, z1, z2, z3, hit', hbw'⟩ := hat'.read
      have HIT := Lib.hid hit
      have HIT' := Lib.hid hit'
      clear hat hat' hit hit' e2
      refine rest_chain 0 10 [(false, [0, 1, 2, 3, 4, 5, 6]), (true, [7]), (true, [8]), (false, [9])] [(false, [_, _, _, _, _, _, _]), (true, [_]), (true, [_]), (false, [_])] rfl (by kernel_rfl) (by kernel_rfl) rfl (by kernel_rfl) (by kernel_rfl) (.inr (by kernel_rfl)) ?_
      refine chain_soft ?_
      intro E hE
      go_wp2
      clear y0 y1 y2 y3 z0 z1 z2 z3
      refine chain_one ?_
      intro E hE
      go_wp2_with (refine (tm_Compare t u _ _ _ _ _ hM hM' HIT.out HIT'.out).mono ?_; rintro e5 w5 ⟨rfl, hb5⟩; have HB5 := Lib.hid hb5; clear hb5)
      refine ⟨HB5.out, ?_⟩
      refine chain_one ?_
      intro E hE
      go_wp2_with (refine (sho_call HK.out (cmpT t u) _).mono ?_; rintro e6 w6 ⟨rfl, rfl⟩)
      refine ⟨Below.refl _ _, ?_⟩
      refine chain_soft ?_
      intro E hE
      go_wp2
      refine chain_nil ?_
      have HB4 := Lib.hid (HB3.out.trans (HB5.out.mono HB3.out.size))
      have HR4 := Lib.hid ((HB5.out.block _ (Array.getElem?_eq_some_iff.1 HR3.out).1).trans HR3.out)
      clear HB5 HB3 HR3
      refine rest_lineL 10 12 [_, _] rfl (by kernel_rfl) (by decide) (by decide) (by kernel_rfl) ?_
      go_wp2_with (with_reducible show wpList _ _ _ (⟨none, .store _ (.tmp 4) _, _, _, _, _⟩ :: _) _ _
                   go_must (
                     refine wpList_store_row rfl 71 (.tmp 4) (.tmp 46) rfl w.heap.size #[.bool ((fun n => decide (n < 0)) (cmpT t u)), .slice none 0 0, .slice none 0 0, .int .i64 0, .int .i64 0, .string ⟨#[]⟩, .slice none 0 0] rfl rfl _ _ HR4.out size_did rfl (one7 _ _ _ _ _ _ _) ?_))
      refine then_rest (rest_end (by decide) ?_)
      go_wp2
      have hz := setRow_heap w5 w.heap.size _ (#[.bool ((fun n => decide (n < 0)) (cmpT t u)), .slice none 0 0, .slice none 0 0, .int .i64 0, .int .i64 0, .string ⟨#[]⟩, .slice none 0 0] : Array Value) _ _ HR4.out
      have hl := HB4.out
      exact bodyPost_ret (v := .tuple #[.agg #[.bool ((fun n => decide (n < 0)) (cmpT t u)), .slice none 0 0, .slice none 0 0, .int .i64 0, .int .i64 0, .string ⟨#[]⟩, .slice none 0 0], .int .i64 0]) (Push.results_cell_tmp Try.results28 _ _ w.heap.size _ #[.bool ((fun n => decide (n < 0)) (cmpT t u)), .slice none 0 0, .slice none 0 0, .int .i64 0, .int .i64 0, .string ⟨#[]⟩, .slice none 0 0] _ _ _ rfl (by simp) hz Try.underlying71 rfl (by kernel_rfl)) rfl ⟨rfl, ⟨hl.os, hl.tape, hl.output, by simpa using hl.size, fun b hb => (setRow_other _ _ _ _ (by omega)).trans (hl.block b hb)⟩⟩
set_option maxRecDepth 100000 in
set_option maxHeartbeats 4000000 in
theorem sh_Do_o3 (hk : ShO ⟨#[64, 62]⟩ 79 (fun n => decide (0 < n)) 3) (t u : Tm) (P : Nat → Prop) (w : World) (a : Option Addr) (c : Nat) (h : IsSl w P (.slice a 2 c) [t, u]) (hM : t.size ≤ 1000000000) (hc : checkT t = 0) (hM' : u.size ≤ 1000000000) (hc' : checkT u = 0) :
    Calls Try.prog 28 #[.string ⟨#[64, 62]⟩, .slice a 2 c] w (fun e w' => e = .returned (.tuple #[didB ((fun n => decide (0 < n)) (cmpT t u)), .int .i64 0]) ∧ Below w.heap.size w w') := by
  have H := Lib.hid h
  have HK := Lib.hid hk
  clear h hk
  have hb0 : Below w.heap.size w (w.alloc (.cells #[.bool false, .slice none 0 0, .slice none 0 0, .int .i64 0, .int .i64 0, .string ⟨#[]⟩, .slice none 0 0] 71 (0, 0))) := (Below.refl _ _).alloc (Nat.le_refl _) _
  have HB0 := Lib.hid hb0
  have HR0 := Lib.hid (heap_alloc_new w (.cells #[.bool false, .slice none 0 0, .slice none 0 0, .int .i64 0, .int .i64 0, .string ⟨#[]⟩, .slice none 0 0] 71 (0, 0)))
  clear hb0
  go_enter Try.func28, Try.ntmps28
  go_wp2_with fail
  refine (sh_Does (sho_n HK.out) _).mono ?_
  rintro e1 w1 ⟨rfl, rfl⟩
  generalize w.alloc (.cells #[.bool false, .slice none 0 0, .slice none 0 0, .int .i64 0, .int .i64 0, .string ⟨#[]⟩, .slice none 0 0] 71 (0, 0)) = W0 at *
  have HST := Lib.hid (show DoRel 2 W0 (.int .i64 ((0 : Nat) : Int)) W0 from ⟨0, by omega, rfl, Below.refl _ _⟩)
  go_wp2
  go_loopw [19] (fun v19 wr => DoRel 2 W0 v19 wr) (fun v19 _ => 2 - (intOf v19).toNat)
  case atStart => exact HST.out
  case round =>
    clear HST
    obtain ⟨i, hi, rfl, hbl⟩ := hrel
    have HBL := Lib.hid hbl
    clear hbl
    by_cases hin : i < 2
    · obtain ⟨T, hT⟩ : ∃ T, T = [t, u][i]'(by simpa using hin) := ⟨_, rfl⟩
      have hTs : T.size ≤ 1000000000 ∧ checkT T = 0 := by
        rcases (show i = 0 ∨ i = 1 by omega) with rfl | rfl
        · rw [hT]; exact ⟨hM, hc⟩
        · rw [hT]; exact ⟨hM', hc'⟩
      obtain ⟨b, off, e1, -, hat⟩ := (H.out.below ((HB0.out.trans (HBL.out.mono HB0.out.size)))).at i (by simpa using hin)
      rw [← hT] at hat
      subst e1
      have b1 : decide ((i : Int) < 2) = true := by simp; omega
      obtain ⟨qa, qc, y0, y1, y2, y3, hit, hbw⟩ := hat.read
      have hba : Below wr.heap.size wr (wr.alloc (.cells #[.int .i64 T.k, .int .i64 T.n, .string T.s, .slice qa T.args.length qc] 49 (0, 0))) := (Below.refl _ _).alloc (Nat.le_refl _) _
      have HIT := Lib.hid (hit.below hba)
      have HBA := Lib.hid (HBL.out.trans (hba.mono HBL.out.size))
      clear hat hit hba HBL hT
      go_wp2_with fail
      refine (tm_Check T _ _ _ hTs.1 HIT.out).mono ?_
      rintro e9 w9 ⟨rfl, hb9⟩
      rw [hTs.2]
      have HRL := Lib.hid (show DoRel 2 W0 (.int .i64 ((i + 1 : Nat) : Int)) w9 from ⟨i + 1, by omega, rfl, HBA.out.trans (hb9.mono HBA.out.size)⟩)
      clear hb9 HBA HIT
      go_wp2
      go_roundw
      case measure => simp [intOf]; omega
      case rel => exact HRL.out
    · have b1 : decide ((i : Int) < 2) = false := by simp; omega
      have hb1 := HB0.out.trans (HBL.out.mono HB0.out.size)
      have hr1 := (HBL.out.block _ (Array.getElem?_eq_some_iff.1 HR0.out).1).trans HR0.out
      have HB1 := Lib.hid hb1
      have HR1 := Lib.hid hr1
      clear hb1 hr1 HB0 HR0 HBL
      go_wp2_with fail
      refine (sh_orders _).mono ?_
      rintro e2 w2 ⟨ob, rfl, hob, hom, hb2⟩
      have HB2 := Lib.hid (HB1.out.trans (hb2.mono HB1.out.size))
      have HR2 := Lib.hid ((hb2.block _ (Array.getElem?_eq_some_iff.1 HR1.out).1).trans HR1.out)
      have HOM := Lib.hid hom
      have HFO := Lib.hid (sho_ord HK.out)
      clear hob hom hb2 HB1 HR1
      go_wp2_with (with_reducible show wpList _ _ _ (⟨some 33, _, _, _, _, _⟩ :: _) _ _
                   go_must (
                     refine wpList_lookup_now rfl 134 (.tmp 31) (.tmp 32) rfl _ _ _ Try.underlying134 Try.underlying9 rfl ob _ _ rfl HOM.out _ HFO.out .nilFunc (fun _ => rfl) ?_
                     clear HOM HFO))
      go_upto_region 12 with fail
      refine wp_region_rest (by kernel_rfl) ?_
      have hd := (Below.refl w2.heap.size w2).drew
      have HB3 := Lib.hid (HB2.out.trans (hd.mono HB2.out.size))
      have HR3 := Lib.hid ((hd.block _ (Array.getElem?_eq_some_iff.1 HR2.out).1).trans HR2.out)
      clear hd HB2 HR2
      generalize w2.drew = W3 at *
      obtain ⟨b, off, e1, -, hat⟩ := (H.out.below HB3.out).at 0 (by simp)
      obtain ⟨b', off', e2, -, hat'⟩ := (H.out.below HB3.out).at 1 (by simp)
      have e3 := e1.symm.trans e2
      simp only [Option.some.injEq, Addr.mk.injEq, and_true] at e3
      obtain ⟨rfl, rfl⟩ := e3
      subst e1
      simp only [List.getElem_cons_zero, List.getElem_cons_succ, Nat.zero_mul, Nat.add_zero, Nat.one_mul] at hat hat'
      obtain ⟨qa, qc, y0, y1, y2, y3, hit, hbw⟩ := hat.read
      obtain ⟨qa', qc', z0, z1, z2, z3, hit', hbw'⟩ := hat'.read
      have HIT := Lib.hid hit
      have HIT' := Lib.hid hit'
      clear hat hat' hit hit' e2
      refine rest_chain 0 10 [(false, [0, 1, 2, 3, 4, 5, 6]), (true, [7]), (true, [8]), (false, [9])] [(false, [_, _, _, _, _, _, _]), (true, [_]), (true, [_]), (false, [_])] rfl (by kernel_rfl) (by kernel_rfl) rfl (by kernel_rfl) (by kernel_rfl) (.inr (by kernel_rfl)) ?_
      refine chain_soft ?_
      intro E hE
      go_wp2
      clear y0 y1 y2 y3 z0 z1 z2 z3
      refine chain_one ?_
      intro E hE
      go_wp2_with (refine (tm_Compare t u _ _ _ _ _ hM hM' HIT.out HIT'.out).mono ?_; rintro e5 w5 ⟨rfl, hb5⟩; have HB5 := Lib.hid hb5; clear hb5)
      refine ⟨HB5.out, ?_⟩
      refine chain_one ?_
      intro E hE
      go_wp2_with (refine (sho_call HK.out (cmpT t u) _).mono ?_; rintro e6 w6 ⟨rfl, rfl⟩)
      refine ⟨Below.refl _ _, ?_⟩
      refine chain_soft ?_
      intro E hE
      go_wp2
      refine chain_nil ?_
      have HB4 := Lib.hid (HB3.out.trans (HB5.out.mono HB3.out.size))
      have HR4 := Lib.hid ((HB5.out.block _ (Array.getElem?_eq_some_iff.1 HR3.out).1).trans HR3.out)
      clear HB5 HB3 HR3
      refine rest_lineL 10 12 [_, _] rfl (by kernel_rfl) (by decide) (by decide) (by kernel_rfl) ?_
      go_wp2_with (with_reducible show wpList _ _ _ (⟨none, .store _ (.tmp 4) _, _, _, _, _⟩ :: _) _ _
                   go_must (
                     refine wpList_store_row rfl 71 (.tmp 4) (.tmp 46) rfl w.heap.size #[.bool ((fun n => decide (0 < n)) (cmpT t u)), .slice none 0 0, .slice none 0 0, .int .i64 0, .int .i64 0, .string ⟨#[]⟩, .slice none 0 0] rfl rfl _ _ HR4.out size_did rfl (one7 _ _ _ _ _ _ _) ?_))
      refine then_rest (rest_end (by decide) ?_)
      go_wp2
      have hz := setRow_heap w5 w.heap.size _ (#[.bool ((fun n => decide (0 < n)) (cmpT t u)), .slice none 0 0, .slice none 0 0, .int .i64 0, .int .i64 0, .string ⟨#[]⟩, .slice none 0 0] : Array Value) _ _ HR4.out
      have hl := HB4.out
      exact bodyPost_ret (v := .tuple #[.agg #[.bool ((fun n => decide (0 < n)) (cmpT t u)), .slice none 0 0, .slice none 0 0, .int .i64 0, .int .i64 0, .string ⟨#[]⟩, .slice none 0 0], .int .i64 0]) (Push.results_cell_tmp Try.results28 _ _ w.heap.size _ #[.bool ((fun n => decide (0 < n)) (cmpT t u)), .slice none 0 0, .slice none 0 0, .int .i64 0, .int .i64 0, .string ⟨#[]⟩, .slice none 0 0] _ _ _ rfl (by simp) hz Try.underlying71 rfl (by kernel_rfl)) rfl ⟨rfl, ⟨hl.os, hl.tape, hl.output, by simpa using hl.size, fun b hb => (setRow_other _ _ _ _ (by omega)).trans (hl.block b hb)⟩⟩
set_option maxRecDepth 100000 in
set_option maxHeartbeats 4000000 in
theorem sh_Do_o4 (hk : ShO ⟨#[64, 61, 60]⟩ 80 (fun n => decide (n ≤ 0)) 4) (t u : Tm) (P : Nat → Prop) (w : World) (a : Option Addr) (c : Nat) (h : IsSl w P (.slice a 2 c) [t, u]) (hM : t.size ≤ 1000000000) (hc : checkT t = 0) (hM' : u.size ≤ 1000000000) (hc' : checkT u = 0) :
    Calls Try.prog 28 #[.string ⟨#[64, 61, 60]⟩, .slice a 2 c] w (fun e w' => e = .returned (.tuple #[didB ((fun n => decide (n ≤ 0)) (cmpT t u)), .int .i64 0]) ∧ Below w.heap.size w w') := by
  have H := Lib.hid h
  have HK := Lib.hid hk
  clear h hk
  have hb0 : Below w.heap.size w (w.alloc (.cells #[.bool false, .slice none 0 0, .slice none 0 0, .int .i64 0, .int .i64 0, .string ⟨#[]⟩, .slice none 0 0] 71 (0, 0))) := (Below.refl _ _).alloc (Nat.le_refl _) _
  have HB0 := Lib.hid hb0
  have HR0 := Lib.hid (heap_alloc_new w (.cells #[.bool false, .slice none 0 0, .slice none 0 0, .int .i64 0, .int .i64 0, .string ⟨#[]⟩, .slice none 0 0] 71 (0, 0)))
  clear hb0
  go_enter Try.func28, Try.ntmps28
  go_wp2_with fail
  refine (sh_Does (sho_n HK.out) _).mono ?_
  rintro e1 w1 ⟨rfl, rfl⟩
  generalize w.alloc (.cells #[.bool false, .slice none 0 0, .slice none 0 0, .int .i64 0, .int .i64 0, .string ⟨#[]⟩, .slice none 0 0] 71 (0, 0)) = W0 at *
  have HST := Lib.hid (show DoRel 2 W0 (.int .i64 ((0 : Nat) : Int)) W0 from ⟨0, by omega, rfl, Below.refl _ _⟩)
  go_wp2
  go_loopw [19] (fun v19 wr => DoRel 2 W0 v19 wr) (fun v19 _ => 2 - (intOf v19).toNat)
  case atStart => exact HST.out
  case round =>
    clear HST
    obtain ⟨i, hi, rfl, hbl⟩ := hrel
    have HBL := Lib.hid hbl
    clear hbl
    by_cases hin : i < 2
    · obtain ⟨T, hT⟩ : ∃ T, T = [t, u][i]'(by simpa using hin) := ⟨_, rfl⟩
      have hTs : T.size ≤ 1000000000 ∧ checkT T = 0 := by
        rcases (show i = 0 ∨ i = 1 by omega) with rfl | rfl
        · rw [hT]; exact ⟨hM, hc⟩
        · rw [hT]; exact ⟨hM', hc'⟩
      obtain ⟨b, off, e1, -, hat⟩ := (H.out.below ((HB0.out.trans (HBL.out.mono HB0.out.size)))).at i (by simpa using hin)
      rw [← hT] at hat
      subst e1
      have b1 : decide ((i : Int) < 2) = true := by simp; omega
      obtain ⟨qa, qc, y0, y1, y2, y3, hit, hbw⟩ := hat.read
      have hba : Below wr.heap.size wr (wr.alloc (.cells #[.int .i64 T.k, .int .i64 T.n, .string T.s, .slice qa T.args.length qc] 49 (0, 0))) := (Below.refl _ _).alloc (Nat.le_refl _) _
      have HIT := Lib.hid (hit.below hba)
      have HBA := Lib.hid (HBL.out.trans (hba.mono HBL.out.size))
      clear hat hit hba HBL hT
      go_wp2_with fail
      refine (tm_Check T _ _ _ hTs.1 HIT.out).mono ?_
      rintro e9 w9 ⟨rfl, hb9⟩
      rw [hTs.2]
      have HRL := Lib.hid (show DoRel 2 W0 (.int .i64 ((i + 1 : Nat) : Int)) w9 from ⟨i + 1, by omega, rfl, HBA.out.trans (hb9.mono HBA.out.size)⟩)
      clear hb9 HBA HIT
      go_wp2
      go_roundw
      case measure => simp [intOf]; omega
      case rel => exact HRL.out
    · have b1 : decide ((i : Int) < 2) = false := by simp; omega
      have hb1 := HB0.out.trans (HBL.out.mono HB0.out.size)
      have hr1 := (HBL.out.block _ (Array.getElem?_eq_some_iff.1 HR0.out).1).trans HR0.out
      have HB1 := Lib.hid hb1
      have HR1 := Lib.hid hr1
      clear hb1 hr1 HB0 HR0 HBL
      go_wp2_with fail
      refine (sh_orders _).mono ?_
      rintro e2 w2 ⟨ob, rfl, hob, hom, hb2⟩
      have HB2 := Lib.hid (HB1.out.trans (hb2.mono HB1.out.size))
      have HR2 := Lib.hid ((hb2.block _ (Array.getElem?_eq_some_iff.1 HR1.out).1).trans HR1.out)
      have HOM := Lib.hid hom
      have HFO := Lib.hid (sho_ord HK.out)
      clear hob hom hb2 HB1 HR1
      go_wp2_with (with_reducible show wpList _ _ _ (⟨some 33, _, _, _, _, _⟩ :: _) _ _
                   go_must (
                     refine wpList_lookup_now rfl 134 (.tmp 31) (.tmp 32) rfl _ _ _ Try.underlying134 Try.underlying9 rfl ob _ _ rfl HOM.out _ HFO.out .nilFunc (fun _ => rfl) ?_
                     clear HOM HFO))
      go_upto_region 12 with fail
      refine wp_region_rest (by kernel_rfl) ?_
      have hd := (Below.refl w2.heap.size w2).drew
      have HB3 := Lib.hid (HB2.out.trans (hd.mono HB2.out.size))
      have HR3 := Lib.hid ((hd.block _ (Array.getElem?_eq_some_iff.1 HR2.out).1).trans HR2.out)
      clear hd HB2 HR2
      generalize w2.drew = W3 at *
      obtain ⟨b, off, e1, -, hat⟩ := (H.out.below HB3.out).at 0 (by simp)
      obtain ⟨b', off', e2, -, hat'⟩ := (H.out.below HB3.out).at 1 (by simp)
      have e3 := e1.symm.trans e2
      simp only [Option.some.injEq, Addr.mk.injEq, and_true] at e3
      obtain ⟨rfl, rfl⟩ := e3
      subst e1
      simp only [List.getElem_cons_zero, List.getElem_cons_succ, Nat.zero_mul, Nat.add_zero, Nat.one_mul] at hat hat'
      obtain ⟨qa, qc, y0, y1, y2, y3, hit, hbw⟩ := hat.read
      obtain ⟨qa', qc', z0, z1, z2, z3, hit', hbw'⟩ := hat'.read
      have HIT := Lib.hid hit
      have HIT' := Lib.hid hit'
      clear hat hat' hit hit' e2
      refine rest_chain 0 10 [(false, [0, 1, 2, 3, 4, 5, 6]), (true, [7]), (true, [8]), (false, [9])] [(false, [_, _, _, _, _, _, _]), (true, [_]), (true, [_]), (false, [_])] rfl (by kernel_rfl) (by kernel_rfl) rfl (by kernel_rfl) (by kernel_rfl) (.inr (by kernel_rfl)) ?_
      refine chain_soft ?_
      intro E hE
      go_wp2
      clear y0 y1 y2 y3 z0 z1 z2 z3
      refine chain_one ?_
      intro E hE
      go_wp2_with (refine (tm_Compare t u _ _ _ _ _ hM hM' HIT.out HIT'.out).mono ?_; rintro e5 w5 ⟨rfl, hb5⟩; have HB5 := Lib.hid hb5; clear hb5)
      refine ⟨HB5.out, ?_⟩
      refine chain_one ?_
      intro E hE
      go_wp2_with (refine (sho_call HK.out (cmpT t u) _).mono ?_; rintro e6 w6 ⟨rfl, rfl⟩)
      refine ⟨Below.refl _ _, ?_⟩
      refine chain_soft ?_
      intro E hE
      go_wp2
      refine chain_nil ?_
      have HB4 := Lib.hid (HB3.out.trans (HB5.out.mono HB3.out.size))
      have HR4 := Lib.hid ((HB5.out.block _ (Array.getElem?_eq_some_iff.1 HR3.out).1).trans HR3.out)
      clear HB5 HB3 HR3
      refine rest_lineL 10 12 [_, _] rfl (by kernel_rfl) (by decide) (by decide) (by kernel_rfl) ?_
      go_wp2_with (with_reducible show wpList _ _ _ (⟨none, .store _ (.tmp 4) _, _, _, _, _⟩ :: _) _ _
                   go_must (
                     refine wpList_store_row rfl 71 (.tmp 4) (.tmp 46) rfl w.heap.size #[.bool ((fun n => decide (n ≤ 0)) (cmpT t u)), .slice none 0 0, .slice none 0 0, .int .i64 0, .int .i64 0, .string ⟨#[]⟩, .slice none 0 0] rfl rfl _ _ HR4.out size_did rfl (one7 _ _ _ _ _ _ _) ?_))
      refine then_rest (rest_end (by decide) ?_)
      go_wp2
      have hz := setRow_heap w5 w.heap.size _ (#[.bool ((fun n => decide (n ≤ 0)) (cmpT t u)), .slice none 0 0, .slice none 0 0, .int .i64 0, .int .i64 0, .string ⟨#[]⟩, .slice none 0 0] : Array Value) _ _ HR4.out
      have hl := HB4.out
      exact bodyPost_ret (v := .tuple #[.agg #[.bool ((fun n => decide (n ≤ 0)) (cmpT t u)), .slice none 0 0, .slice none 0 0, .int .i64 0, .int .i64 0, .string ⟨#[]⟩, .slice none 0 0], .int .i64 0]) (Push.results_cell_tmp Try.results28 _ _ w.heap.size _ #[.bool ((fun n => decide (n ≤ 0)) (cmpT t u)), .slice none 0 0, .slice none 0 0, .int .i64 0, .int .i64 0, .string ⟨#[]⟩, .slice none 0 0] _ _ _ rfl (by simp) hz Try.underlying71 rfl (by kernel_rfl)) rfl ⟨rfl, ⟨hl.os, hl.tape, hl.output, by simpa using hl.size, fun b hb => (setRow_other _ _ _ _ (by omega)).trans (hl.block b hb)⟩⟩
set_option maxRecDepth 100000 in
set_option maxHeartbeats 4000000 in
theorem sh_Do_o5 (hk : ShO ⟨#[64, 62, 61]⟩ 81 (fun n => decide (0 ≤ n)) 5) (t u : Tm) (P : Nat → Prop) (w : World) (a : Option Addr) (c : Nat) (h : IsSl w P (.slice a 2 c) [t, u]) (hM : t.size ≤ 1000000000) (hc : checkT t = 0) (hM' : u.size ≤ 1000000000) (hc' : checkT u = 0) :
    Calls Try.prog 28 #[.string ⟨#[64, 62, 61]⟩, .slice a 2 c] w (fun e w' => e = .returned (.tuple #[didB ((fun n => decide (0 ≤ n)) (cmpT t u)), .int .i64 0]) ∧ Below w.heap.size w w') := by
  have H := Lib.hid h
  have HK := Lib.hid hk
  clear h hk
  have hb0 : Below w.heap.size w (w.alloc (.cells #[.bool false, .slice none 0 0, .slice none 0 0, .int .i64 0, .int .i64 0, .string ⟨#[]⟩, .slice none 0 0] 71 (0, 0))) := (Below.refl _ _).alloc (Nat.le_refl _) _
  have HB0 := Lib.hid hb0
  have HR0 := Lib.hid (heap_alloc_new w (.cells #[.bool false, .slice none 0 0, .slice none 0 0, .int .i64 0, .int .i64 0, .string ⟨#[]⟩, .slice none 0 0] 71 (0, 0)))
  clear hb0
  go_enter Try.func28, Try.ntmps28
  go_wp2_with fail
  refine (sh_Does (sho_n HK.out) _).mono ?_
  rintro e1 w1 ⟨rfl, rfl⟩
  generalize w.alloc (.cells #[.bool false, .slice none 0 0, .slice none 0 0, .int .i64 0, .int .i64 0, .string ⟨#[]⟩, .slice none 0 0] 71 (0, 0)) = W0 at *
  have HST := Lib.hid (show DoRel 2 W0 (.int .i64 ((0 : Nat) : Int)) W0 from ⟨0, by omega, rfl, Below.refl _ _⟩)
  go_wp2
  go_loopw [19] (fun v19 wr => DoRel 2 W0 v19 wr) (fun v19 _ => 2 - (intOf v19).toNat)
  case atStart => exact HST.out
  case round =>
    clear HST
    obtain ⟨i, hi, rfl, hbl⟩ := hrel
    have HBL := Lib.hid hbl
    clear hbl
    by_cases hin : i < 2
    · obtain ⟨T, hT⟩ : ∃ T, T = [t, u][i]'(by simpa using hin) := ⟨_, rfl⟩
      have hTs : T.size ≤ 1000000000 ∧ checkT T = 0 := by
        rcases (show i = 0 ∨ i = 1 by omega) with rfl | rfl
        · rw [hT]; exact ⟨hM, hc⟩
        · rw [hT]; exact ⟨hM', hc'⟩
      obtain ⟨b, off, e1, -, hat⟩ := (H.out.below ((HB0.out.trans (HBL.out.mono HB0.out.size)))).at i (by simpa using hin)
      rw [← hT] at hat
      subst e1
      have b1 : decide ((i : Int) < 2) = true := by simp; omega
      obtain ⟨qa, qc, y0, y1, y2, y3, hit, hbw⟩ := hat.read
      have hba : Below wr.heap.size wr (wr.alloc (.cells #[.int .i64 T.k, .int .i64 T.n, .string T.s, .slice qa T.args.length qc] 49 (0, 0))) := (Below.refl _ _).alloc (Nat.le_refl _) _
      have HIT := Lib.hid (hit.below hba)
      have HBA := Lib.hid (HBL.out.trans (hba.mono HBL.out.size))
      clear hat hit hba HBL hT
      go_wp2_with fail
      refine (tm_Check T _ _ _ hTs.1 HIT.out).mono ?_
      rintro e9 w9 ⟨rfl, hb9⟩
      rw [hTs.2]
      have HRL := Lib.hid (show DoRel 2 W0 (.int .i64 ((i + 1 : Nat) : Int)) w9 from ⟨i + 1, by omega, rfl, HBA.out.trans (hb9.mono HBA.out.size)⟩)
      clear hb9 HBA HIT
      go_wp2
      go_roundw
      case measure => simp [intOf]; omega
      case rel => exact HRL.out
    · have b1 : decide ((i : Int) < 2) = false := by simp; omega
      have hb1 := HB0.out.trans (HBL.out.mono HB0.out.size)
      have hr1 := (HBL.out.block _ (Array.getElem?_eq_some_iff.1 HR0.out).1).trans HR0.out
      have HB1 := Lib.hid hb1
      have HR1 := Lib.hid hr1
      clear hb1 hr1 HB0 HR0 HBL
      go_wp2_with fail
      refine (sh_orders _).mono ?_
      rintro e2 w2 ⟨ob, rfl, hob, hom, hb2⟩
      have HB2 := Lib.hid (HB1.out.trans (hb2.mono HB1.out.size))
      have HR2 := Lib.hid ((hb2.block _ (Array.getElem?_eq_some_iff.1 HR1.out).1).trans HR1.out)
      have HOM := Lib.hid hom
      have HFO := Lib.hid (sho_ord HK.out)
      clear hob hom hb2 HB1 HR1
      go_wp2_with (with_reducible show wpList _ _ _ (⟨some 33, _, _, _, _, _⟩ :: _) _ _
                   go_must (
                     refine wpList_lookup_now rfl 134 (.tmp 31) (.tmp 32) rfl _ _ _ Try.underlying134 Try.underlying9 rfl ob _ _ rfl HOM.out _ HFO.out .nilFunc (fun _ => rfl) ?_
                     clear HOM HFO))
      go_upto_region 12 with fail
      refine wp_region_rest (by kernel_rfl) ?_
      have hd := (Below.refl w2.heap.size w2).drew
      have HB3 := Lib.hid (HB2.out.trans (hd.mono HB2.out.size))
      have HR3 := Lib.hid ((hd.block _ (Array.getElem?_eq_some_iff.1 HR2.out).1).trans HR2.out)
      clear hd HB2 HR2
      generalize w2.drew = W3 at *
      obtain ⟨b, off, e1, -, hat⟩ := (H.out.below HB3.out).at 0 (by simp)
      obtain ⟨b', off', e2, -, hat'⟩ := (H.out.below HB3.out).at 1 (by simp)
      have e3 := e1.symm.trans e2
      simp only [Option.some.injEq, Addr.mk.injEq, and_true] at e3
      obtain ⟨rfl, rfl⟩ := e3
      subst e1
      simp only [List.getElem_cons_zero, List.getElem_cons_succ, Nat.zero_mul, Nat.add_zero, Nat.one_mul] at hat hat'
      obtain ⟨qa, qc, y0, y1, y2, y3, hit, hbw⟩ := hat.read
      obtain ⟨qa', qc', z0, z1, z2, z3, hit', hbw'⟩ := hat'.read
      have HIT := Lib.hid hit
      have HIT' := Lib.hid hit'
      clear hat hat' hit hit' e2
      refine rest_chain 0 10 [(false, [0, 1, 2, 3, 4, 5, 6]), (true, [7]), (true, [8]), (false, [9])] [(false, [_, _, _, _, _, _, _]), (true, [_]), (true, [_]), (false, [_])] rfl (by kernel_rfl) (by kernel_rfl) rfl (by kernel_rfl) (by kernel_rfl) (.inr (by kernel_rfl)) ?_
      refine chain_soft ?_
      intro E hE
      go_wp2
      clear y0 y1 y2 y3 z0 z1 z2 z3
      refine chain_one ?_
      intro E hE
      go_wp2_with (refine (tm_Compare t u _ _ _ _ _ hM hM' HIT.out HIT'.out).mono ?_; rintro e5 w5 ⟨rfl, hb5⟩; have HB5 := Lib.hid hb5; clear hb5)
      refine ⟨HB5.out, ?_⟩
      refine chain_one ?_
      intro E hE
      go_wp2_with (refine (sho_call HK.out (cmpT t u) _).mono ?_; rintro e6 w6 ⟨rfl, rfl⟩)
      refine ⟨Below.refl _ _, ?_⟩
      refine chain_soft ?_
      intro E hE
      go_wp2
      refine chain_nil ?_
      have HB4 := Lib.hid (HB3.out.trans (HB5.out.mono HB3.out.size))
      have HR4 := Lib.hid ((HB5.out.block _ (Array.getElem?_eq_some_iff.1 HR3.out).1).trans HR3.out)
      clear HB5 HB3 HR3
      refine rest_lineL 10 12 [_, _] rfl (by kernel_rfl) (by decide) (by decide) (by kernel_rfl) ?_
      go_wp2_with (with_reducible show wpList _ _ _ (⟨none, .store _ (.tmp 4) _, _, _, _, _⟩ :: _) _ _
                   go_must (
                     refine wpList_store_row rfl 71 (.tmp 4) (.tmp 46) rfl w.heap.size #[.bool ((fun n => decide (0 ≤ n)) (cmpT t u)), .slice none 0 0, .slice none 0 0, .int .i64 0, .int .i64 0, .string ⟨#[]⟩, .slice none 0 0] rfl rfl _ _ HR4.out size_did rfl (one7 _ _ _ _ _ _ _) ?_))
      refine then_rest (rest_end (by decide) ?_)
      go_wp2
      have hz := setRow_heap w5 w.heap.size _ (#[.bool ((fun n => decide (0 ≤ n)) (cmpT t u)), .slice none 0 0, .slice none 0 0, .int .i64 0, .int .i64 0, .string ⟨#[]⟩, .slice none 0 0] : Array Value) _ _ HR4.out
      have hl := HB4.out
      exact bodyPost_ret (v := .tuple #[.agg #[.bool ((fun n => decide (0 ≤ n)) (cmpT t u)), .slice none 0 0, .slice none 0 0, .int .i64 0, .int .i64 0, .string ⟨#[]⟩, .slice none 0 0], .int .i64 0]) (Push.results_cell_tmp Try.results28 _ _ w.heap.size _ #[.bool ((fun n => decide (0 ≤ n)) (cmpT t u)), .slice none 0 0, .slice none 0 0, .int .i64 0, .int .i64 0, .string ⟨#[]⟩, .slice none 0 0] _ _ _ rfl (by simp) hz Try.underlying71 rfl (by kernel_rfl)) rfl ⟨rfl, ⟨hl.os, hl.tape, hl.output, by simpa using hl.size, fun b hb => (setRow_other _ _ _ _ (by omega)).trans (hl.block b hb)⟩⟩
end Go.Proofs.Ytkhchmgdaolojaa.Tms
