
/-
  goal.Clause, walked over the program.
-/
import Derived.Test.YtmlceamcpelklaaGct
namespace Go.Proofs.Ytmlceamcpelklaa.Tms
open Go Go.RowKit Go.Proofs.Ytmlceamcpelklaa.Reg
set_option linter.unusedVariables false

set_option maxRecDepth 100000 in
set_option maxHeartbeats 8000000 in
theorem goal_Clause (t : Tm) (v : Value) (P : Nat → Prop) (w : World) (hM : t.size ≤ 100000000) (h : IsTm w P v t) : Calls Try.prog 16 #[v] w (ClsPost P (clsT t) w) := by
  have hl := h.lt
  obtain ⟨a, cap, rfl⟩ := h.form
  have CX := Lib.hid (cls_start w t a cap)
  have HL := Lib.hid hl
  clear h hl
  by_cases c1 : checkT t = 0
  case neg =>
    have b1 : (checkT t != 0) = true := by simpa using c1
    have HR := Lib.hid (show clsT t = (zeroTm, zeroTm, checkT t, zeroTm) by unfold clsT; rw [if_pos c1])
    clear c1
    go_enter Try.func16, Try.ntmps16
    go_wp2_with fail
    refine (tm_Check t _ _ _ (by omega) (HL.out.below CX.out.bel)).mono ?_
    rintro e2 w2 ⟨rfl, hb2⟩
    have C2 := Lib.hid (CX.out.below hb2)
    clear hb2 CX
    go_wp2_with (first
      | (with_reducible show wpList _ _ _ (⟨none, .store _ (.tmp 2) _, _, _, _, _⟩ :: _) _ _
         refine wpList_store_row rfl 27 (.tmp 2) (.tmp 12) rfl (w.heap.size + 1) zeroC rfl rfl _ _ C2.out.r1 size_term rfl (one4 _ _ _ _ _ _) ?_
         replace C2 := Lib.hid (C2.out.set1 zeroC))
      | (with_reducible show wpList _ _ _ (⟨none, .store _ (.tmp 3) _, _, _, _, _⟩ :: _) _ _
         refine wpList_store_row rfl 27 (.tmp 3) (.tmp 13) rfl (w.heap.size + 2) zeroC rfl rfl _ _ C2.out.r2 size_term rfl (one4 _ _ _ _ _ _) ?_
         replace C2 := Lib.hid (C2.out.set2 zeroC))
      | (with_reducible show wpList _ _ _ (⟨none, .store _ (.tmp 5) _, _, _, _, _⟩ :: _) _ _
         refine wpList_store_row rfl 27 (.tmp 5) (.tmp 15) rfl (w.heap.size + 3) zeroC rfl rfl _ _ C2.out.r3 size_term rfl (one4 _ _ _ _ _ _) ?_
         replace C2 := Lib.hid (C2.out.set3 zeroC)))
    have hpost : ClsPost P (clsT t) w (.returned (.tuple #[.agg zeroC, .agg zeroC, .int .i64 (checkT t), .agg zeroC])) (((w2.setRow (w.heap.size + 1) zeroC).setRow (w.heap.size + 2) zeroC).setRow (w.heap.size + 3) zeroC) := by
      rw [HR.out]
      exact ⟨none, 0, none, 0, none, 0, rfl, zero_is _ _, zero_is _ _, zero_is _ _, C2.out.bel⟩
    exact bodyPost_ret (v := .tuple #[.agg zeroC, .agg zeroC, .int .i64 (checkT t), .agg zeroC]) (results_four Try.results16 _ _ _ _ _ _ _ _ _ _ _ _ rfl rfl rfl rfl C2.out.r1 C2.out.r2 C2.out.r3 Try.underlying27 rfl (by kernel_rfl) (by kernel_rfl) (by kernel_rfl)) rfl hpost
  have C1 := Lib.hid c1
  clear c1
  have z0 : ((0 : Int) != 0) = false := by decide
  have ht0 : clsT t = if (headC t).k = 1 then (zeroTm, zeroTm, 12, zeroTm) else if (headC t).k = 2 then (zeroTm, zeroTm, 13, headC t)
    else if (bodE (restC t)).2 = 13 then (zeroTm, zeroTm, 13, restC t) else if (bodE (restC t)).2 ≠ 0 then (zeroTm, zeroTm, (bodE (restC t)).2, zeroTm) else (headC t, (bodE (restC t)).1, 0, zeroTm) := by unfold clsT; rw [if_neg (by simpa using C1.out)]
  by_cases k1 : t.k = 1
  · have b1 : (t.k == 1) = true := by simpa using k1
    have b4 : (t.k == 4) = false := by rw [k1]; decide
    have hh : headC t = t := by unfold headC isRule; rw [b4]; simp
    have HR := Lib.hid (show clsT t = (zeroTm, zeroTm, 12, zeroTm) by rw [ht0, hh, if_pos k1])
    clear ht0 k1 hh
    go_enter Try.func16, Try.ntmps16
    go_wp2_with fail
    refine (tm_Check t _ _ _ (by omega) (HL.out.below CX.out.bel)).mono ?_
    rintro e2 w2 ⟨rfl, hb2⟩
    rw [C1.out]
    have C2 := Lib.hid (CX.out.below hb2)
    clear hb2 CX
    obtain ⟨r0, r1, rsz, rbl⟩ := two w2 (.cells #[.int .i64 t.k, .int .i64 t.n, .string t.s, .slice a t.args.length cap] 27 (0, 0)) (.cells #[.int .i64 3, .int .i64 0, .string (⟨#[116, 114, 117, 101]⟩ : ByteArray), .slice none 0 0] 27 (0, 0))
    have C := Lib.hid (C2.out.below rbl)
    have hb6 : w.heap.size + 4 ≤ w2.heap.size := C2.out.big
    have hzl : w.heap.size < w2.heap.size := by omega
    obtain ⟨q0, q1, q2, q3⟩ := row4 C2.out.box
    clear C2
    go_wp2_with (first
      | (with_reducible show wpList _ _ _ (⟨none, .store _ (.tmp 2) _, _, _, _, _⟩ :: _) _ _
         refine wpList_store_row rfl 27 (.tmp 2) (.tmp 44) rfl (w.heap.size + 1) zeroC rfl rfl _ _ C.out.r1 size_term rfl (one4 _ _ _ _ _ _) ?_
         replace C := Lib.hid (C.out.set1 zeroC))
      | (with_reducible show wpList _ _ _ (⟨none, .store _ (.tmp 3) _, _, _, _, _⟩ :: _) _ _
         refine wpList_store_row rfl 27 (.tmp 3) (.tmp 45) rfl (w.heap.size + 2) zeroC rfl rfl _ _ C.out.r2 size_term rfl (one4 _ _ _ _ _ _) ?_
         replace C := Lib.hid (C.out.set2 zeroC))
      | (with_reducible show wpList _ _ _ (⟨none, .store _ (.tmp 5) _, _, _, _, _⟩ :: _) _ _
         refine wpList_store_row rfl 27 (.tmp 5) (.tmp 46) rfl (w.heap.size + 3) zeroC rfl rfl _ _ C.out.r3 size_term rfl (one4 _ _ _ _ _ _) ?_
         replace C := Lib.hid (C.out.set3 zeroC)))
    have hpost : ClsPost P (clsT t) w (.returned (.tuple #[.agg zeroC, .agg zeroC, .int .i64 12, .agg zeroC])) (((((w2.alloc (.cells #[.int .i64 t.k, .int .i64 t.n, .string t.s, .slice a t.args.length cap] 27 (0, 0))).alloc (.cells #[.int .i64 3, .int .i64 0, .string (⟨#[116, 114, 117, 101]⟩ : ByteArray), .slice none 0 0] 27 (0, 0))).setRow (w.heap.size + 1) zeroC).setRow (w.heap.size + 2) zeroC).setRow (w.heap.size + 3) zeroC) := by
      rw [HR.out]
      exact ⟨none, 0, none, 0, none, 0, rfl, zero_is _ _, zero_is _ _, zero_is _ _, C.out.bel⟩
    exact bodyPost_ret (v := .tuple #[.agg zeroC, .agg zeroC, .int .i64 12, .agg zeroC]) (results_four Try.results16 _ _ _ _ _ _ _ _ _ _ _ _ rfl rfl rfl rfl C.out.r1 C.out.r2 C.out.r3 Try.underlying27 rfl (by kernel_rfl) (by kernel_rfl) (by kernel_rfl)) rfl hpost
  by_cases k2 : t.k = 2
  · have b1 : (t.k == 1) = false := by rw [k2]; decide
    have b2 : (t.k == 2) = true := by simpa using k2
    have b4 : (t.k == 4) = false := by rw [k2]; decide
    have hh : headC t = t := by unfold headC isRule; rw [b4]; simp
    have HR := Lib.hid (show clsT t = (zeroTm, zeroTm, 13, t) by rw [ht0, hh, if_neg k1, if_pos k2])
    clear ht0 k1 k2 hh
    go_enter Try.func16, Try.ntmps16
    go_wp2_with fail
    refine (tm_Check t _ _ _ (by omega) (HL.out.below CX.out.bel)).mono ?_
    rintro e2 w2 ⟨rfl, hb2⟩
    rw [C1.out]
    have C2 := Lib.hid (CX.out.below hb2)
    clear hb2 CX
    obtain ⟨r0, r1, rsz, rbl⟩ := two w2 (.cells #[.int .i64 t.k, .int .i64 t.n, .string t.s, .slice a t.args.length cap] 27 (0, 0)) (.cells #[.int .i64 3, .int .i64 0, .string (⟨#[116, 114, 117, 101]⟩ : ByteArray), .slice none 0 0] 27 (0, 0))
    have C := Lib.hid (C2.out.below rbl)
    have hb6 : w.heap.size + 4 ≤ w2.heap.size := C2.out.big
    have hzl : w.heap.size < w2.heap.size := by omega
    obtain ⟨q0, q1, q2, q3⟩ := row4 C2.out.box
    clear C2
    go_wp2_with fail
    generalize (w2.alloc (.cells #[.int .i64 t.k, .int .i64 t.n, .string t.s, .slice a t.args.length cap] 27 (0, 0))).alloc (.cells #[.int .i64 3, .int .i64 0, .string (⟨#[116, 114, 117, 101]⟩ : ByteArray), .slice none 0 0] 27 (0, 0)) = W at *
    have R6 := Lib.hid r0
    have R7 := Lib.hid r1
    have HW : Hid (W.heap.size = w2.heap.size + 2) := Lib.hid rsz
    have HT := Lib.hid (HL.out.below C.out.bel)
    clear r0 r1 rsz rbl q0 q1 q2 q3 hzl
    generalize w2.heap.size = b6 at *
    have IH := HT
    obtain ⟨y0, y1, y2, y3⟩ := row4 R6.out
    refine (goal_own t _ _ _ (by omega) IH.out).mono ?_
    rintro e4 w4 ⟨a4, c4, rfl, hi4, -, hb4⟩
    have H4 := Lib.hid hi4
    replace C := Lib.hid (C.out.below hb4)
    have HZ : Hid (w.heap.size + 4 ≤ W.heap.size) := Lib.hid (by have := HW.out; omega)
    clear hi4 hb4 y0 y1 y2 y3
    go_wp2_with (first
      | (with_reducible show wpList _ _ _ (⟨none, .store _ (.tmp 2) _, _, _, _, _⟩ :: _) _ _
         refine wpList_store_row rfl 27 (.tmp 2) (.tmp 49) rfl (w.heap.size + 1) zeroC rfl rfl _ _ C.out.r1 size_term rfl (one4 _ _ _ _ _ _) ?_
         replace C := Lib.hid (C.out.set1 zeroC))
      | (with_reducible show wpList _ _ _ (⟨none, .store _ (.tmp 3) _, _, _, _, _⟩ :: _) _ _
         refine wpList_store_row rfl 27 (.tmp 3) (.tmp 50) rfl (w.heap.size + 2) zeroC rfl rfl _ _ C.out.r2 size_term rfl (one4 _ _ _ _ _ _) ?_
         replace C := Lib.hid (C.out.set2 zeroC))
      | (with_reducible show wpList _ _ _ (⟨none, .store _ (.tmp 5) _, _, _, _, _⟩ :: _) _ _
         refine wpList_store_row rfl 27 (.tmp 5) (.tmp 52) rfl (w.heap.size + 3) #[.int .i64 (t).k, .int .i64 (t).n, .string (t).s, .slice a4 (t).args.length c4] rfl rfl _ _ C.out.r3 size_term rfl (one4 _ _ _ _ _ _) ?_
         replace C := Lib.hid (C.out.set3 #[.int .i64 (t).k, .int .i64 (t).n, .string (t).s, .slice a4 (t).args.length c4])))
    have hpost : ClsPost P (clsT t) w (.returned (.tuple #[.agg zeroC, .agg zeroC, .int .i64 13, aggT t a4 c4])) (((w4.setRow (w.heap.size + 1) zeroC).setRow (w.heap.size + 2) zeroC).setRow (w.heap.size + 3) #[.int .i64 (t).k, .int .i64 (t).n, .string (t).s, .slice a4 (t).args.length c4]) := by
      rw [HR.out]
      refine ⟨none, 0, none, 0, a4, c4, rfl, zero_is _ _, zero_is _ _, H4.out.imp (fun b h => h.elim (fun h => .inl h.1) fun h => .inr (by have := HZ.out; omega)) (fun b h _ => ?_), C.out.bel⟩
      have hz := HZ.out
      have hb : b < w.heap.size ∨ W.heap.size ≤ b := h.elim (fun h => .inl h.2) .inr
      exact (setRow_other _ _ _ _ (by omega)).trans ((setRow_other _ _ _ _ (by omega)).trans (setRow_other _ _ _ _ (by omega)))
    exact bodyPost_ret (v := .tuple #[.agg zeroC, .agg zeroC, .int .i64 13, aggT t a4 c4]) (results_four Try.results16 _ _ _ _ _ _ _ _ _ _ _ _ rfl rfl rfl rfl C.out.r1 C.out.r2 C.out.r3 Try.underlying27 rfl (by kernel_rfl) (by kernel_rfl) (by kernel_rfl)) rfl hpost
  have b1 : (t.k == 1) = false := by simpa using k1
  have b2 : (t.k == 2) = false := by simpa using k2
  cases hru : isRule t
  · have hh : headC t = t := by unfold headC; rw [hru]; simp
    have hh2 : restC t = atomT (⟨#[116, 114, 117, 101]⟩ : ByteArray) := by unfold restC; rw [hru]; simp
    rw [hh, hh2, if_neg k1, if_neg k2] at ht0
    have hbs : (atomT (⟨#[116, 114, 117, 101]⟩ : ByteArray)).size ≤ 100000000 := by simp [atomT, Tm.size, sizeL]
    have hatm : ∀ W : World, IsTm W (fun b => P b ∧ b < w.heap.size) (.agg #[.int .i64 3, .int .i64 0, .string (⟨#[116, 114, 117, 101]⟩ : ByteArray), .slice none 0 0]) (atomT (⟨#[116, 114, 117, 101]⟩ : ByteArray)) := fun W => atom_is _ _ _
    have hatr : (.cells #[.int .i64 3, .int .i64 0, .string (⟨#[116, 114, 117, 101]⟩ : ByteArray), .slice none 0 0] 27 (0, 0) : Obj) = rowT (atomT (⟨#[116, 114, 117, 101]⟩ : ByteArray)) none 0 := rfl
    have hatv : (.agg #[.int .i64 3, .int .i64 0, .string (⟨#[116, 114, 117, 101]⟩ : ByteArray), .slice none 0 0] : Value) = aggT (atomT (⟨#[116, 114, 117, 101]⟩ : ByteArray)) none 0 := rfl
    generalize atomT (⟨#[116, 114, 117, 101]⟩ : ByteArray) = TT at *
    have HRT := Lib.hid ht0
    have HAR := Lib.hid hatr
    have HAV := Lib.hid hatv
    have h3 : (t.k == 4) = false ∨ ((t.k == 4) = true ∧ (t.s.toList == [58, 45]) = false) ∨ ((t.k == 4) = true ∧ (t.s.toList == [58, 45]) = true ∧ ((t.args.length : Int) == 2) = false) := by
      unfold isRule at hru
      cases h4 : (t.k == 4)
      · exact .inl rfl
      · rw [h4] at hru
        cases h5 : (t.s.toList == [58, 45])
        · exact .inr (.inl ⟨rfl, rfl⟩)
        · rw [h5] at hru
          refine .inr (.inr ⟨rfl, rfl, ?_⟩)
          simp only [Bool.true_and] at hru
          rw [beq_eq_false_iff_ne] at hru ⊢
          omega
    clear ht0 k1 k2 hh hh2 hru hatr hatv
    rcases h3 with b4 | ⟨b4, b5⟩ | ⟨b4, b5, b6'⟩
    all_goals
      go_enter Try.func16, Try.ntmps16
      go_wp2_with fail
      refine (tm_Check t _ _ _ (by omega) (HL.out.below CX.out.bel)).mono ?_
      rintro e2 w2 ⟨rfl, hb2⟩
      rw [C1.out]
      have C2 := Lib.hid (CX.out.below hb2)
      clear hb2 CX
      obtain ⟨r0, r1, rsz, rbl⟩ := two w2 (.cells #[.int .i64 t.k, .int .i64 t.n, .string t.s, .slice a t.args.length cap] 27 (0, 0)) (.cells #[.int .i64 3, .int .i64 0, .string (⟨#[116, 114, 117, 101]⟩ : ByteArray), .slice none 0 0] 27 (0, 0))
      have C := Lib.hid (C2.out.below rbl)
      have hb6 : w.heap.size + 4 ≤ w2.heap.size := C2.out.big
      have hzl : w.heap.size < w2.heap.size := by omega
      obtain ⟨q0, q1, q2, q3⟩ := row4 C2.out.box
      clear C2
      go_wp2_with fail
      generalize (w2.alloc (.cells #[.int .i64 t.k, .int .i64 t.n, .string t.s, .slice a t.args.length cap] 27 (0, 0))).alloc (.cells #[.int .i64 3, .int .i64 0, .string (⟨#[116, 114, 117, 101]⟩ : ByteArray), .slice none 0 0] 27 (0, 0)) = W at *
      have R6 := Lib.hid r0
      have R7 := Lib.hid r1
      have HW : Hid (W.heap.size = w2.heap.size + 2) := Lib.hid rsz
      have HT := Lib.hid (HL.out.below C.out.bel)
      clear r0 r1 rsz rbl q0 q1 q2 q3 hzl
      generalize w2.heap.size = b6 at *
      have IH := HT
      have IB := Lib.hid (hatm W)
      clear hatm
      have hB := goal_Body TT _ _ _ hbs IB.out
      generalize bodE TT = RB at *
      obtain ⟨B, e⟩ := RB
      refine hB.mono ?_
      clear hB
      simp only [BodEPost] at HRT ⊢
      rintro e5 w5 ⟨a5, c5, rfl, hi5, -, hb5⟩
      rename_i K1 hK1 K0 hK0
      have HK1 := Lib.hid hK1
      clear hK1
      have HI5 := Lib.hid hi5
      have IH5 := Lib.hid (IH.out.below hb5)
      have IB5 := Lib.hid (IB.out.below hb5)
      have R65 := Lib.hid ((hb5.block b6 (by have := HW.out; omega)).trans R6.out)
      have R75 := Lib.hid ((hb5.block (b6 + 1) (by have := HW.out; omega)).trans R7.out)
      replace C := Lib.hid (C.out.below hb5)
      have HZ5 : Hid (b6 + 2 ≤ w5.heap.size) := Lib.hid (by have := HW.out; have := hb5.size; omega)
      have HWZ : Hid (b6 + 2 ≤ W.heap.size) := Lib.hid (by have := HW.out; omega)
      clear hi5 hb5 IH IB R6 R7 HW
      go_wp2_with (first
        | (with_reducible show wpList _ _ _ (⟨none, .store _ (.tmp 3) _, _, _, _, _⟩ :: _) _ _
           refine wpList_store_row rfl 27 (.tmp 3) (.tmp 56) rfl (w.heap.size + 2) #[.int .i64 B.k, .int .i64 B.n, .string B.s, .slice a5 B.args.length c5] rfl rfl _ _ C.out.r2 size_term rfl (one4 _ _ _ _ _ _) ?_
           replace C := Lib.hid (C.out.set2 #[.int .i64 B.k, .int .i64 B.n, .string B.s, .slice a5 B.args.length c5])))
      refine HK1.out _ _ ?_
      have HV := Lib.hid (HI5.out.imp (P' := fun b => (P b ∧ b < w.heap.size) ∨ b6 ≤ b) (fun b h => h.imp_right fun h => by have := HWZ.out; omega) (fun b h _ => setRow_other w5 (w.heap.size + 2) b #[.int .i64 B.k, .int .i64 B.n, .string B.s, .slice a5 B.args.length c5] (by have := HWZ.out; rcases h with h | h <;> omega)))
      have HH := Lib.hid (IH5.out.imp (fun _ h => h) (fun b hp _ => setRow_other w5 (w.heap.size + 2) b #[.int .i64 B.k, .int .i64 B.n, .string B.s, .slice a5 B.args.length c5] (by have := hp.2; omega)))
      have HB := Lib.hid (IB5.out.imp (fun _ h => h) (fun b hp _ => setRow_other w5 (w.heap.size + 2) b #[.int .i64 B.k, .int .i64 B.n, .string B.s, .slice a5 B.args.length c5] (by have := hp.2; omega)))
      have R69 := Lib.hid ((setRow_other w5 (w.heap.size + 2) b6 #[.int .i64 B.k, .int .i64 B.n, .string B.s, .slice a5 B.args.length c5] (by omega)).trans R65.out)
      have R79 := Lib.hid ((setRow_other w5 (w.heap.size + 2) (b6 + 1) #[.int .i64 B.k, .int .i64 B.n, .string B.s, .slice a5 B.args.length c5] (by omega)).trans R75.out)
      have hsz9 : b6 + 2 ≤ (w5.setRow (w.heap.size + 2) #[.int .i64 B.k, .int .i64 B.n, .string B.s, .slice a5 B.args.length c5]).heap.size := by have := HZ5.out; simpa using this
      generalize w5.setRow (w.heap.size + 2) #[.int .i64 B.k, .int .i64 B.n, .string B.s, .slice a5 B.args.length c5] = w9 at *
      by_cases e13 : e = 13
      · exact cls_13 (H := t) (Bd := TT) (aB := none) (cB := 0) (Qf := fun _ _ => True) _ _ _ _ _ _ _ _ _ _ _ _ _ _ _ _ _ _ _ _ _ _ _ _ _ _ _ _ _ _ _ _ _ _ _ _ _ _ _ _ _ _ _ _ _ _ _ _ _ _ _ _ _ _ _ _ _ _ _ _ _ _ _ _ _ C.out hb6 hsz9 R69.out (R79.out.trans (congrArg some HAR.out)) HH.out (HAV.out ▸ HB.out) HV.out (by omega) hbs e13 HRT.out
      by_cases e0 : e = 0
      · exact cls_0 (H := t) (Bd := TT) (aB := none) (cB := 0) (Qf := fun _ _ => True) _ _ _ _ _ _ _ _ _ _ _ _ _ _ _ _ _ _ _ _ _ _ _ _ _ _ _ _ _ _ _ _ _ _ _ _ _ _ _ _ _ _ _ _ _ _ _ _ _ _ _ _ _ _ _ _ _ _ _ _ _ _ _ _ _ C.out hb6 hsz9 R69.out (R79.out.trans (congrArg some HAR.out)) HH.out (HAV.out ▸ HB.out) HV.out (by omega) hbs e0 HRT.out
      exact cls_1 (H := t) (Bd := TT) (aB := none) (cB := 0) (Qf := fun _ _ => True) _ _ _ _ _ _ _ _ _ _ _ _ _ _ _ _ _ _ _ _ _ _ _ _ _ _ _ _ _ _ _ _ _ _ _ _ _ _ _ _ _ _ _ _ _ _ _ _ _ _ _ _ _ _ _ _ _ _ _ _ _ _ _ _ _ C.out hb6 hsz9 R69.out (R79.out.trans (congrArg some HAR.out)) HH.out (HAV.out ▸ HB.out) HV.out (by omega) hbs e13 e0 HRT.out
  · obtain ⟨hk4, hss, hag⟩ := rule_args hru
    have hps := rule_size hru
    have b4 : (t.k == 4) = true := by simpa using hk4
    have b5 : (t.s.toList == [58, 45]) = true := hss
    have b6' : ((t.args.length : Int) == 2) = true := by rw [hag]; rfl
    have hin0 : (0 : Int) < (t.args.length : Int) := by rw [hag]; simp
    have hin1 : (1 : Int) < (t.args.length : Int) := by rw [hag]; simp
    have hh : headC t = lftT t := by unfold headC; rw [hru]; simp
    have hh2 : restC t = rgtT t := by unfold restC; rw [hru]; simp
    rw [hh, hh2] at ht0
    clear hh hh2 hru hk4 hss k1 k2
    generalize lftT t = X at *
    generalize rgtT t = Y at *
    have HAG := Lib.hid hag
    clear hag
    have HT0 := Lib.hid ht0
    clear ht0
    go_enter Try.func16, Try.ntmps16
    go_wp2_with fail
    refine (tm_Check t _ _ _ (by omega) (HL.out.below CX.out.bel)).mono ?_
    rintro e2 w2 ⟨rfl, hb2⟩
    rw [C1.out]
    have C2 := Lib.hid (CX.out.below hb2)
    clear hb2 CX
    obtain ⟨r0, r1, rsz, rbl⟩ := two w2 (.cells #[.int .i64 t.k, .int .i64 t.n, .string t.s, .slice a t.args.length cap] 27 (0, 0)) (.cells #[.int .i64 3, .int .i64 0, .string (⟨#[116, 114, 117, 101]⟩ : ByteArray), .slice none 0 0] 27 (0, 0))
    have C := Lib.hid (C2.out.below rbl)
    have hb6 : w.heap.size + 4 ≤ w2.heap.size := C2.out.big
    have hzl : w.heap.size < w2.heap.size := by omega
    obtain ⟨q0, q1, q2, q3⟩ := row4 C2.out.box
    clear C2
    go_wp2
    refine wp_region_rest (by kernel_rfl) ?_
    replace C := Lib.hid (C.out.below (Below.refl _ _).drew)
    have R6 : Hid (((w2.alloc (.cells #[.int .i64 t.k, .int .i64 t.n, .string t.s, .slice a t.args.length cap] 27 (0, 0))).alloc (.cells #[.int .i64 3, .int .i64 0, .string (⟨#[116, 114, 117, 101]⟩ : ByteArray), .slice none 0 0] 27 (0, 0))).drew.heap[w2.heap.size]? = _) := Lib.hid r0
    have R7 : Hid (((w2.alloc (.cells #[.int .i64 t.k, .int .i64 t.n, .string t.s, .slice a t.args.length cap] 27 (0, 0))).alloc (.cells #[.int .i64 3, .int .i64 0, .string (⟨#[116, 114, 117, 101]⟩ : ByteArray), .slice none 0 0] 27 (0, 0))).drew.heap[w2.heap.size + 1]? = _) := Lib.hid r1
    have HW : Hid (((w2.alloc (.cells #[.int .i64 t.k, .int .i64 t.n, .string t.s, .slice a t.args.length cap] 27 (0, 0))).alloc (.cells #[.int .i64 3, .int .i64 0, .string (⟨#[116, 114, 117, 101]⟩ : ByteArray), .slice none 0 0] 27 (0, 0))).drew.heap.size = w2.heap.size + 2) := Lib.hid rsz
    clear r0 r1 rsz rbl q0 q1 q2 q3 hzl
    generalize ((w2.alloc (.cells #[.int .i64 t.k, .int .i64 t.n, .string t.s, .slice a t.args.length cap] 27 (0, 0))).alloc (.cells #[.int .i64 3, .int .i64 0, .string (⟨#[116, 114, 117, 101]⟩ : ByteArray), .slice none 0 0] 27 (0, 0))).drew = W0 at *
    generalize w2.heap.size = b6 at *
    have HT := Lib.hid (HL.out.below C.out.bel)
    obtain ⟨g1, o1, ea, ⟨p1, l1⟩, m1⟩ := HT.out.args.at 0 (by rw [HAG.out]; simp)
    obtain ⟨g2, o2, eb, -, m2⟩ := HT.out.args.at 1 (by rw [HAG.out]; simp)
    rw [ea] at eb
    simp only [Option.some.injEq, Addr.mk.injEq, and_true] at eb
    obtain ⟨rfl, rfl⟩ := eb
    have hx0 : t.args[0]'(by rw [HAG.out]; simp) = X := by simp [HAG.out]
    have hy0 : t.args[1]'(by rw [HAG.out]; simp) = Y := by simp [HAG.out]
    rw [hx0] at m1
    rw [hy0] at m2
    obtain ⟨cx, dx, y0, y1, y2, y3, iX, -⟩ := m1.read
    obtain ⟨cy, dy, z0', z1, z2, z3, iY, -⟩ := m2.read
    subst ea
    simp only [Nat.zero_mul, Nat.add_zero, Nat.one_mul] at y0 y1 y2 y3 z0' z1 z2 z3
    have IX := Lib.hid iX
    have IY := Lib.hid iY
    have Y0 := Lib.hid y0
    have Y1 := Lib.hid y1
    have Y2 := Lib.hid y2
    have Y3 := Lib.hid y3
    have Z0 := Lib.hid z0'
    have Z1 := Lib.hid z1
    have Z2 := Lib.hid z2
    have Z3 := Lib.hid z3
    have hw0 : b6 + 2 ≤ W0.heap.size := by have := HW.out; omega
    have hg1 : g1 < b6 := by omega
    clear m1 m2 hx0 hy0 iX iY y0 y1 y2 y3 z0' z1 z2 z3
    refine rest_opsM 0 9 72 [(8, b6)] (fun _ _ => false) [_, _, _, _, _, _, _, _, _] (pk 0 [isV ?a1_0, isV ?a1_1, isV ?a1_2, isV ?a1_3, isV ?a1_4, isV ?a1_5, isV ?a1_6, isV ?a1_7, fun v u => u.heap[b6]? = some (rowT X cx dx)]) (fun _ _ => none) rfl (by kernel_rfl) (by kernel_rfl) rfl (.inr (by kernel_rfl)) ?hS1 ?hop1 ?_
    case hop1 =>
      refine ⟨?_, ?_⟩
      · intro v u hu hs Q' hQ
        simp only [putX, dstOf, cond_false]
        clear hs
        go_wp2
        exact ⟨rfl, Keeps.refl _ _, by (show _ = _; rfl), fun _ h => nomatch h⟩
      refine ⟨?_, ?_⟩
      · intro v u hu hs Q' hQ
        simp only [putX, dstOf, cond_false]
        have s_0 : v 0 = _ := hs 0 (by kernel_rfl) (by decide) (by decide)
        have HZ := hu.size
        have KU : ∀ b, b < W0.heap.size → b ∉ ([] : List Nat) → u.heap[b]? = W0.heap[b]? := fun b hlt hn => hu.block b hlt fun h => hn h
        clear hs
        (have hz := (KU w.heap.size (by omega) (by first | (simp; done) | (simp; omega) | omega)).trans C.out.box; have x3 := (row4 hz).2.2.2; clear hz; go_wp2)
        exact ⟨rfl, Keeps.refl _ _, by (show _ = _; rfl), fun _ h => nomatch h⟩
      refine ⟨?_, ?_⟩
      · intro v u hu hs Q' hQ
        simp only [putX, dstOf, cond_false]
        have s_1 : v 1 = _ := hs 1 (by kernel_rfl) (by decide) (by decide)
        clear hs
        go_wp2
        exact ⟨rfl, Keeps.refl _ _, by (show _ = _; rfl), fun _ h => nomatch h⟩
      refine ⟨?_, ?_⟩
      · intro v u hu hs Q' hQ
        simp only [putX, dstOf, cond_false]
        have s_2 : v 2 = _ := hs 2 (by kernel_rfl) (by decide) (by decide)
        have HZ := hu.size
        have KU : ∀ b, b < W0.heap.size → b ∉ ([] : List Nat) → u.heap[b]? = W0.heap[b]? := fun b hlt hn => hu.block b hlt fun h => hn h
        clear hs
        (have hg := KU g1 (by omega) (by first | (simp; done) | (simp; omega) | omega); have y0 := (World.cell?_of_block (a := ⟨g1, o1, none⟩) hg).trans Y0.out; have y1 := (World.cell?_of_block (a := ⟨g1, o1 + 1, none⟩) hg).trans Y1.out; have y2 := (World.cell?_of_block (a := ⟨g1, o1 + 2, none⟩) hg).trans Y2.out; have y3 := (World.cell?_of_block (a := ⟨g1, o1 + 3, none⟩) hg).trans Y3.out; clear hg; go_wp2)
        exact ⟨rfl, Keeps.refl _ _, by (show _ = _; rfl), fun _ h => nomatch h⟩
      refine ⟨?_, ?_⟩
      · intro v u hu hs Q' hQ
        simp only [putX, dstOf, cond_false]
        clear hs
        go_wp2
        exact ⟨rfl, Keeps.refl _ _, by (show _ = _; rfl), fun _ h => nomatch h⟩
      refine ⟨?_, ?_⟩
      · intro v u hu hs Q' hQ
        simp only [putX, dstOf, cond_false]
        have s_4 : v 4 = _ := hs 4 (by kernel_rfl) (by decide) (by decide)
        have HZ := hu.size
        have KU : ∀ b, b < W0.heap.size → b ∉ ([b6] : List Nat) → u.heap[b]? = W0.heap[b]? := fun b hlt hn => hu.block b hlt fun h => hn h
        clear hs
        (have hz := (KU w.heap.size (by omega) (by first | (simp; done) | (simp; omega) | omega)).trans C.out.box; have x3 := (row4 hz).2.2.2; clear hz; go_wp2)
        exact ⟨rfl, Keeps.refl _ _, by (show _ = _; rfl), fun _ h => nomatch h⟩
      refine ⟨?_, ?_⟩
      · intro v u hu hs Q' hQ
        simp only [putX, dstOf, cond_false]
        have s_5 : v 5 = _ := hs 5 (by kernel_rfl) (by decide) (by decide)
        clear hs
        go_wp2
        exact ⟨rfl, Keeps.refl _ _, by (show _ = _; rfl), fun _ h => nomatch h⟩
      refine ⟨?_, ?_⟩
      · intro v u hu hs Q' hQ
        simp only [putX, dstOf, cond_false]
        have s_6 : v 6 = _ := hs 6 (by kernel_rfl) (by decide) (by decide)
        have HZ := hu.size
        have KU : ∀ b, b < W0.heap.size → b ∉ ([b6] : List Nat) → u.heap[b]? = W0.heap[b]? := fun b hlt hn => hu.block b hlt fun h => hn h
        clear hs
        (have hg := KU g1 (by omega) (by first | (simp; done) | (simp; omega) | omega); have y0 := (World.cell?_of_block (a := ⟨g1, o1 + 4, none⟩) hg).trans Z0.out; have y1 := (World.cell?_of_block (a := ⟨g1, o1 + 4 + 1, none⟩) hg).trans Z1.out; have y2 := (World.cell?_of_block (a := ⟨g1, o1 + 4 + 2, none⟩) hg).trans Z2.out; have y3 := (World.cell?_of_block (a := ⟨g1, o1 + 4 + 3, none⟩) hg).trans Z3.out; clear hg; go_wp2)
        exact ⟨rfl, Keeps.refl _ _, by (show _ = _; rfl), fun _ h => nomatch h⟩
      refine ⟨?_, ?_⟩
      · intro v u hu hs Q' hQ
        simp only [putX, dstOf, cond_false]
        have s_0 : v 0 = _ := hs 0 (by kernel_rfl) (by decide) (by decide)
        have s_1 : v 1 = _ := hs 1 (by kernel_rfl) (by decide) (by decide)
        have s_2 : v 2 = _ := hs 2 (by kernel_rfl) (by decide) (by decide)
        have s_3 : v 3 = _ := hs 3 (by kernel_rfl) (by decide) (by decide)
        have HZ := hu.size
        have KU : ∀ b, b < W0.heap.size → b ∉ ([] : List Nat) → u.heap[b]? = W0.heap[b]? := fun b hlt hn => hu.block b hlt fun h => hn h
        clear hs
        (have HR5 := Lib.hid ((KU b6 (by omega) (by first | (simp; done) | (simp; omega) | omega)).trans R6.out); simp only [s_3, Act.put, List.getElem?_toArray, List.getElem?_cons_succ, List.getElem?_cons_zero, Option.bind_some, List.setIfInBounds_toArray, List.set_cons_succ, List.set_cons_zero, Nat.reduceAdd]; go_wp2_with (refine wpList_store_row rfl 27 (.tmp 6) (.tmp 35) rfl b6 #[.int .i64 X.k, .int .i64 X.n, .string X.s, .slice cx X.args.length dx] rfl rfl _ _ HR5.out size_term rfl (one4 _ _ _ _ _ _) ?_))
        exact ⟨rfl, ⟨rfl, rfl, rfl, by simp, fun b _ hn => setRow_other _ _ _ _ hn⟩, setRow_heap _ _ _ _ _ _ HR5.out, fun _ h => nomatch h⟩
      exact trivial
    case hS1 =>
      intro j v u u' hkj hjn h hz hb
      match j, hkj, hjn, h, hb with
      | 0, _, _, h, hb => exact h
      | 1, _, _, h, hb => exact h
      | 2, _, _, h, hb => exact h
      | 3, _, _, h, hb => exact h
      | 4, _, _, h, hb => exact h
      | 5, _, _, h, hb => exact h
      | 6, _, _, h, hb => exact h
      | 7, _, _, h, hb => exact h
      | 8, _, _, h, hb => exact (hb.block _ (by have := (Array.getElem?_eq_some_iff.1 h).1; exact this) (by rintro ⟨q, hq, hm⟩; simp at hm <;> omega)).trans h
      | q + 9, _, hq, _, _ => exact absurd hq (by omega)
    intro v u hu hs hap
    have s_0 : v 0 = _ := hs 0 (by decide) (by decide)
    have s_1 : v 1 = _ := hs 1 (by decide) (by decide)
    have s_2 : v 2 = _ := hs 2 (by decide) (by decide)
    have s_3 : v 3 = _ := hs 3 (by decide) (by decide)
    have s_4 : v 4 = _ := hs 4 (by decide) (by decide)
    have s_5 : v 5 = _ := hs 5 (by decide) (by decide)
    have s_6 : v 6 = _ := hs 6 (by decide) (by decide)
    have s_7 : v 7 = _ := hs 7 (by decide) (by decide)
    have s_8 : u.heap[b6]? = some (rowT X cx dx) := hs 8 (by decide) (by decide)
    simp only [putAll, dstOf]
    have S8 := Lib.hid s_8
    have HKU := Lib.hid hu
    have HR7 := Lib.hid ((hu.block (b6 + 1) (by omega) (by rintro ⟨q, hm⟩; simp at hm <;> omega)).trans R7.out)
    clear hs hap s_0 s_1 s_2 s_3 s_4 s_5 s_6 s_8 hu R6 R7
    refine rest_lineL 9 10 [_] rfl (by kernel_rfl) (by decide) (by decide) (by kernel_rfl) ?_
    simp only [s_7, Act.put, List.getElem?_toArray, List.getElem?_cons_succ, List.getElem?_cons_zero, Option.bind_some, List.setIfInBounds_toArray, List.set_cons_succ, List.set_cons_zero, Nat.reduceAdd]
    clear s_7
    go_wp2_with (refine wpList_store_row rfl 27 (.tmp 7) (.tmp 39) rfl (b6 + 1) #[.int .i64 Y.k, .int .i64 Y.n, .string Y.s, .slice cy Y.args.length dy] rfl rfl _ _ HR7.out size_term rfl (one4 _ _ _ _ _ _) ?_)
    refine then_rest (rest_end (by decide) ?_)
    have hoth : ∀ b, b < W0.heap.size → b ≠ b6 → b ≠ b6 + 1 → (u.setRow (b6 + 1) #[.int .i64 Y.k, .int .i64 Y.n, .string Y.s, .slice cy Y.args.length dy]).heap[b]? = W0.heap[b]? := fun b hb h1 h2 => (setRow_other _ _ _ _ h2).trans (HKU.out.block b hb (by rintro ⟨q, hm⟩; simp at hm <;> omega))
    have hszu : W0.heap.size ≤ (u.setRow (b6 + 1) #[.int .i64 Y.k, .int .i64 Y.n, .string Y.s, .slice cy Y.args.length dy]).heap.size := by have := HKU.out.size; simpa using this
    have hbw : Below (w.heap.size + 4) W0 (u.setRow (b6 + 1) #[.int .i64 Y.k, .int .i64 Y.n, .string Y.s, .slice cy Y.args.length dy]) := ⟨HKU.out.os, HKU.out.tape, HKU.out.output, hszu, fun b hb => hoth b (by omega) (by omega) (by omega)⟩
    replace C := Lib.hid (C.out.on hbw)
    have IH := Lib.hid (IX.out.imp (fun _ h => h) fun b hp _ => hbw.block b (by have := hp.2; omega))
    have IB := Lib.hid (IY.out.imp (fun _ h => h) fun b hp _ => hbw.block b (by have := hp.2; omega))
    have R6 := Lib.hid ((setRow_other u (b6 + 1) b6 #[.int .i64 Y.k, .int .i64 Y.n, .string Y.s, .slice cy Y.args.length dy] (by omega)).trans S8.out)
    have R7 := Lib.hid (setRow_heap u (b6 + 1) _ (#[.int .i64 Y.k, .int .i64 Y.n, .string Y.s, .slice cy Y.args.length dy] : Array Value) _ _ HR7.out)
    have HW2 : Hid (b6 + 2 ≤ (u.setRow (b6 + 1) #[.int .i64 Y.k, .int .i64 Y.n, .string Y.s, .slice cy Y.args.length dy]).heap.size) := Lib.hid (by omega)
    clear hoth hszu hbw HKU HR7 S8 HW IX IY Y0 Y1 Y2 Y3 Z0 Z1 Z2 Z3 HT HL
    generalize u.setRow (b6 + 1) #[.int .i64 Y.k, .int .i64 Y.n, .string Y.s, .slice cy Y.args.length dy] = W at *
    have HW := HW2
    obtain ⟨y0, y1, y2, y3⟩ := row4 R6.out
    by_cases j1 : X.k = 1
    · have f1 : (X.k == 1) = true := by simpa using j1
      have HR := Lib.hid (show clsT t = (zeroTm, zeroTm, 12, zeroTm) by rw [HT0.out, if_pos j1])
      clear HT0 j1
      go_wp2_with (first
        | (with_reducible show wpList _ _ _ (⟨none, .store _ (.tmp 2) _, _, _, _, _⟩ :: _) _ _
           refine wpList_store_row rfl 27 (.tmp 2) (.tmp 44) rfl (w.heap.size + 1) zeroC rfl rfl _ _ C.out.r1 size_term rfl (one4 _ _ _ _ _ _) ?_
           replace C := Lib.hid (C.out.set1 zeroC))
        | (with_reducible show wpList _ _ _ (⟨none, .store _ (.tmp 3) _, _, _, _, _⟩ :: _) _ _
           refine wpList_store_row rfl 27 (.tmp 3) (.tmp 45) rfl (w.heap.size + 2) zeroC rfl rfl _ _ C.out.r2 size_term rfl (one4 _ _ _ _ _ _) ?_
           replace C := Lib.hid (C.out.set2 zeroC))
        | (with_reducible show wpList _ _ _ (⟨none, .store _ (.tmp 5) _, _, _, _, _⟩ :: _) _ _
           refine wpList_store_row rfl 27 (.tmp 5) (.tmp 46) rfl (w.heap.size + 3) zeroC rfl rfl _ _ C.out.r3 size_term rfl (one4 _ _ _ _ _ _) ?_
           replace C := Lib.hid (C.out.set3 zeroC)))
      have hpost : ClsPost P (clsT t) w (.returned (.tuple #[.agg zeroC, .agg zeroC, .int .i64 12, .agg zeroC])) (((W.setRow (w.heap.size + 1) zeroC).setRow (w.heap.size + 2) zeroC).setRow (w.heap.size + 3) zeroC) := by
        rw [HR.out]
        exact ⟨none, 0, none, 0, none, 0, rfl, zero_is _ _, zero_is _ _, zero_is _ _, C.out.bel⟩
      exact bodyPost_ret (v := .tuple #[.agg zeroC, .agg zeroC, .int .i64 12, .agg zeroC]) (results_four Try.results16 _ _ _ _ _ _ _ _ _ _ _ _ rfl rfl rfl rfl C.out.r1 C.out.r2 C.out.r3 Try.underlying27 rfl (by kernel_rfl) (by kernel_rfl) (by kernel_rfl)) rfl hpost
    have f1 : (X.k == 1) = false := by simpa using j1
    by_cases j2 : X.k = 2
    · have f2 : (X.k == 2) = true := by simpa using j2
      have HR := Lib.hid (show clsT t = (zeroTm, zeroTm, 13, X) by rw [HT0.out, if_neg j1, if_pos j2])
      clear HT0 j1 j2
      go_wp2_with fail
      clear y0 y1 y2 y3
      obtain ⟨y0, y1, y2, y3⟩ := row4 R6.out
      refine (goal_own X _ _ _ (by omega) IH.out).mono ?_
      rintro e4 w4 ⟨a4, c4, rfl, hi4, -, hb4⟩
      have H4 := Lib.hid hi4
      replace C := Lib.hid (C.out.below hb4)
      have HZ : Hid (w.heap.size + 4 ≤ W.heap.size) := Lib.hid (by have := HW.out; omega)
      clear hi4 hb4 y0 y1 y2 y3
      go_wp2_with (first
        | (with_reducible show wpList _ _ _ (⟨none, .store _ (.tmp 2) _, _, _, _, _⟩ :: _) _ _
           refine wpList_store_row rfl 27 (.tmp 2) (.tmp 49) rfl (w.heap.size + 1) zeroC rfl rfl _ _ C.out.r1 size_term rfl (one4 _ _ _ _ _ _) ?_
           replace C := Lib.hid (C.out.set1 zeroC))
        | (with_reducible show wpList _ _ _ (⟨none, .store _ (.tmp 3) _, _, _, _, _⟩ :: _) _ _
           refine wpList_store_row rfl 27 (.tmp 3) (.tmp 50) rfl (w.heap.size + 2) zeroC rfl rfl _ _ C.out.r2 size_term rfl (one4 _ _ _ _ _ _) ?_
           replace C := Lib.hid (C.out.set2 zeroC))
        | (with_reducible show wpList _ _ _ (⟨none, .store _ (.tmp 5) _, _, _, _, _⟩ :: _) _ _
           refine wpList_store_row rfl 27 (.tmp 5) (.tmp 52) rfl (w.heap.size + 3) #[.int .i64 (X).k, .int .i64 (X).n, .string (X).s, .slice a4 (X).args.length c4] rfl rfl _ _ C.out.r3 size_term rfl (one4 _ _ _ _ _ _) ?_
           replace C := Lib.hid (C.out.set3 #[.int .i64 (X).k, .int .i64 (X).n, .string (X).s, .slice a4 (X).args.length c4])))
      have hpost : ClsPost P (clsT t) w (.returned (.tuple #[.agg zeroC, .agg zeroC, .int .i64 13, aggT X a4 c4])) (((w4.setRow (w.heap.size + 1) zeroC).setRow (w.heap.size + 2) zeroC).setRow (w.heap.size + 3) #[.int .i64 (X).k, .int .i64 (X).n, .string (X).s, .slice a4 (X).args.length c4]) := by
        rw [HR.out]
        refine ⟨none, 0, none, 0, a4, c4, rfl, zero_is _ _, zero_is _ _, H4.out.imp (fun b h => h.elim (fun h => .inl h.1) fun h => .inr (by have := HZ.out; omega)) (fun b h _ => ?_), C.out.bel⟩
        have hz := HZ.out
        have hb : b < w.heap.size ∨ W.heap.size ≤ b := h.elim (fun h => .inl h.2) .inr
        exact (setRow_other _ _ _ _ (by omega)).trans ((setRow_other _ _ _ _ (by omega)).trans (setRow_other _ _ _ _ (by omega)))
      exact bodyPost_ret (v := .tuple #[.agg zeroC, .agg zeroC, .int .i64 13, aggT X a4 c4]) (results_four Try.results16 _ _ _ _ _ _ _ _ _ _ _ _ rfl rfl rfl rfl C.out.r1 C.out.r2 C.out.r3 Try.underlying27 rfl (by kernel_rfl) (by kernel_rfl) (by kernel_rfl)) rfl hpost
    have f2 : (X.k == 2) = false := by simpa using j2
    have ht0 := HT0.out
    rw [if_neg j1, if_neg j2] at ht0
    have HRT := Lib.hid ht0
    obtain ⟨p0, p1', p2, p3⟩ := row4 R7.out
    clear ht0 HT0 j1 j2
    go_wp2_with fail
    clear y0 y1 y2 y3 p0 p1' p2 p3
    have hB := goal_Body Y _ _ _ (by omega) IB.out
    generalize bodE Y = RB at *
    obtain ⟨B, e⟩ := RB
    refine hB.mono ?_
    clear hB
    simp only [BodEPost] at HRT ⊢
    rintro e5 w5 ⟨a5, c5, rfl, hi5, -, hb5⟩
    rename_i K1 hK1 K0 hK0
    have HK1 := Lib.hid hK1
    clear hK1
    have HI5 := Lib.hid hi5
    have IH5 := Lib.hid (IH.out.below hb5)
    have IB5 := Lib.hid (IB.out.below hb5)
    have R65 := Lib.hid ((hb5.block b6 (by have := HW.out; omega)).trans R6.out)
    have R75 := Lib.hid ((hb5.block (b6 + 1) (by have := HW.out; omega)).trans R7.out)
    replace C := Lib.hid (C.out.below hb5)
    have HZ5 : Hid (b6 + 2 ≤ w5.heap.size) := Lib.hid (by have := HW.out; have := hb5.size; omega)
    have HWZ : Hid (b6 + 2 ≤ W.heap.size) := Lib.hid (by have := HW.out; omega)
    clear hi5 hb5 IH IB R6 R7 HW
    go_wp2_with (first
      | (with_reducible show wpList _ _ _ (⟨none, .store _ (.tmp 3) _, _, _, _, _⟩ :: _) _ _
         refine wpList_store_row rfl 27 (.tmp 3) (.tmp 56) rfl (w.heap.size + 2) #[.int .i64 B.k, .int .i64 B.n, .string B.s, .slice a5 B.args.length c5] rfl rfl _ _ C.out.r2 size_term rfl (one4 _ _ _ _ _ _) ?_
         replace C := Lib.hid (C.out.set2 #[.int .i64 B.k, .int .i64 B.n, .string B.s, .slice a5 B.args.length c5])))
    refine HK1.out _ _ ?_
    have HV := Lib.hid (HI5.out.imp (P' := fun b => (P b ∧ b < w.heap.size) ∨ b6 ≤ b) (fun b h => h.imp_right fun h => by have := HWZ.out; omega) (fun b h _ => setRow_other w5 (w.heap.size + 2) b #[.int .i64 B.k, .int .i64 B.n, .string B.s, .slice a5 B.args.length c5] (by have := HWZ.out; rcases h with h | h <;> omega)))
    have HH := Lib.hid (IH5.out.imp (fun _ h => h) (fun b hp _ => setRow_other w5 (w.heap.size + 2) b #[.int .i64 B.k, .int .i64 B.n, .string B.s, .slice a5 B.args.length c5] (by have := hp.2; omega)))
    have HB := Lib.hid (IB5.out.imp (fun _ h => h) (fun b hp _ => setRow_other w5 (w.heap.size + 2) b #[.int .i64 B.k, .int .i64 B.n, .string B.s, .slice a5 B.args.length c5] (by have := hp.2; omega)))
    have R69 := Lib.hid ((setRow_other w5 (w.heap.size + 2) b6 #[.int .i64 B.k, .int .i64 B.n, .string B.s, .slice a5 B.args.length c5] (by omega)).trans R65.out)
    have R79 := Lib.hid ((setRow_other w5 (w.heap.size + 2) (b6 + 1) #[.int .i64 B.k, .int .i64 B.n, .string B.s, .slice a5 B.args.length c5] (by omega)).trans R75.out)
    have hsz9 : b6 + 2 ≤ (w5.setRow (w.heap.size + 2) #[.int .i64 B.k, .int .i64 B.n, .string B.s, .slice a5 B.args.length c5]).heap.size := by have := HZ5.out; simpa using this
    generalize w5.setRow (w.heap.size + 2) #[.int .i64 B.k, .int .i64 B.n, .string B.s, .slice a5 B.args.length c5] = w9 at *
    by_cases e13 : e = 13
    · exact cls_13 (H := X) (Bd := Y) (aB := cy) (cB := dy) (Qf := fun _ _ => True) _ _ _ _ _ _ _ _ _ _ _ _ _ _ _ _ _ _ _ _ _ _ _ _ _ _ _ _ _ _ _ _ _ _ _ _ _ _ _ _ _ _ _ _ _ _ _ _ _ _ _ _ _ _ _ _ _ _ _ _ _ _ _ _ _ C.out hb6 hsz9 R69.out R79.out HH.out HB.out HV.out (by omega) (by omega) e13 HRT.out
    by_cases e0 : e = 0
    · exact cls_0 (H := X) (Bd := Y) (aB := cy) (cB := dy) (Qf := fun _ _ => True) _ _ _ _ _ _ _ _ _ _ _ _ _ _ _ _ _ _ _ _ _ _ _ _ _ _ _ _ _ _ _ _ _ _ _ _ _ _ _ _ _ _ _ _ _ _ _ _ _ _ _ _ _ _ _ _ _ _ _ _ _ _ _ _ _ C.out hb6 hsz9 R69.out R79.out HH.out HB.out HV.out (by omega) (by omega) e0 HRT.out
    exact cls_1 (H := X) (Bd := Y) (aB := cy) (cB := dy) (Qf := fun _ _ => True) _ _ _ _ _ _ _ _ _ _ _ _ _ _ _ _ _ _ _ _ _ _ _ _ _ _ _ _ _ _ _ _ _ _ _ _ _ _ _ _ _ _ _ _ _ _ _ _ _ _ _ _ _ _ _ _ _ _ _ _ _ _ _ _ _ C.out hb6 hsz9 R69.out R79.out HH.out HB.out HV.out (by omega) (by omega) e13 e0 HRT.out
end Go.Proofs.Ytmlceamcpelklaa.Tms
