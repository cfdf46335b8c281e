
/-
  Layer 17: ShapeKinds, walked over the program.
-/
import Derived.Test.YtkhchmgdaolojaaSll
import Derived.Handy
import Derived.LoopN
namespace Go.Proofs.Ytkhchmgdaolojaa.Tms
open Go Go.RowKit Go.Proofs.Ytkhchmgdaolojaa.Reg Go.Proofs.Ytkhchmgdaolojaa.Rws Go.Proofs.Ytkhchmgdaolojaa.Maps Go.Instr
set_option linter.unusedVariables false
set_option linter.unusedSimpArgs false

theorem good_check17 (L : List Pt) (h : L.length ≤ 60) : checkT (goodT L) = 0 := check_zero (good_may L) (by have := goodT_size L; omega)
theorem wpList_mapUpdate_new {P : Program} {w : World} {ops : Array Oper} {rest : List Oper} {o : Oper} {a : Act} {Q : Exit → Act → World → Prop} (hgd : o.guard = none) (t : TypeId) (m k x : Operand) (ho : o.op = .mapUpdate t m k x) (kt et : TypeId) (d : TypeDesc)
    (h : P.underlying t = some (.map kt et)) (hk : P.underlying kt = some d) (hp : plainKey d = true) (b : Nat) (es : Array MapEntry) (c : Nat) (hm : a.eval m = .map (some b)) (hb : w.heap[b]? = some (.map es c)) (hf : findNow d (a.eval k) es.toList 0 = some none)
    (hK : ∀ w', w'.heap[b]? = some (.map (es.push ⟨a.eval k, a.eval x, c⟩) (c + 1)) → w.grownBy w' (some b) → wpList P ops Q rest (a.put o.dst undef) w') : wpList P ops Q (o :: rest) a w := by
  refine wpList_plain hgd fun K hK' => ?_
  have hrun := run_insert_new (P := P) w t kt et d h hk hp b (a.eval k) (a.eval x) es c hb hf
  unfold Oper.wp
  simp [execOp, ho, hm, hrun, Result.andThen]
  exact hK' _ _ (hK _ (setObj'_at _ _ _ (Array.getElem?_eq_some_iff.1 hb).1) (setObj'_grown _ _ _))
theorem wpList_lookup_valG {P : Program} {w : World} {ops : Array Oper} {rest : List Oper} {o : Oper} {a : Act} {Q : Exit → Act → World → Prop} (hgd : Region.wanted o (yielded ops a.tmps) = true) (t : TypeId) (m k : Operand) (ho : o.op = .lookup t m k false) (kt et : TypeId) (d : TypeDesc)
    (h : P.underlying t = some (.map kt et)) (hk : P.underlying kt = some d) (hp : plainKey d = true) (b : Nat) (es : Array MapEntry) (c : Nat) (hm : a.eval m = .map (some b)) (hb : w.heap[b]? = some (.map es c)) (r : Nat × Value)
    (hf : findNow d (a.eval k) es.toList 0 = some (some r))
    (hK : wpList P ops Q rest (a.put o.dst r.2) w) : wpList P ops Q (o :: rest) a w := by
  refine wpList_step fun K hK' => ?_
  rw [if_pos hgd]
  have hrun := run_lookup_val (P := P) w t kt et d h hk hp b (a.eval k) es c hb r hf
  unfold Oper.wp
  simp [execOp, ho, hm, hrun, Result.andThen]
  exact hK' _ _ hK
theorem below_grown {w0 w w' : World} {B b : Nat} (h : Below B w0 w) (hg : w.grownBy w' (some b)) (hb : B ≤ b) (hB : B ≤ w.heap.size) : Below B w0 w' :=
  ⟨hg.os.trans h.os, hg.tape.trans h.tape, hg.output.trans h.output, Nat.le_trans h.size hg.size, fun k hk => (hg.block k (by omega) (fun e => by simp at e; omega)).trans (h.block k hk)⟩
set_option maxRecDepth 100000 in
set_option maxHeartbeats 16000000 in
theorem law_kinds1 (L : List Pt) (v1 : Value) (w : World) (h1 : PtSl w v1 L) (g1 : L.length ≤ 60) (hk : (goodT L).k = 1) : Calls Try.prog 8 #[v1] w (Says true w) := by
  obtain ⟨a1, c1, rfl, hc1, hm1⟩ := h1.form
  have H1 := Lib.hid h1
  have HK := Lib.hid hk
  have HC := Lib.hid (good_check17 L g1)
  clear h1 hk
  have d1 : decide (60 < (L.length : Int)) = false := by simp; omega
  have HSZ := Lib.hid (show (goodT L).size ≤ 1000000000 by have := goodT_size L; omega)
  go_enter Try.func8, Try.ntmps8
  go_wp2_with fail
  refine (l17_alive _).mono ?_
  rintro e1 w1 ⟨rfl, hb1⟩
  have HB := Lib.hid hb1
  clear hb1
  go_wp2_with fail
  refine (ref_great L _ _ (H1.out.below HB.out)).mono ?_
  rintro e2 w2 ⟨rfl, rfl⟩
  go_wp2_with fail
  refine (ref_good L _ _ (by omega) (H1.out.below HB.out)).mono ?_
  rintro e3 w3 ⟨v3, rfl, hi3, hb3⟩
  obtain ⟨b1, k1, rfl⟩ := hi3.form
  have HX := Lib.hid (hi3.lt.imp (P' := fun b => b < w3.heap.size) (fun b h => h.2) fun _ _ _ => rfl)
  have HB3 := Lib.hid (HB.out.trans (hb3.mono HB.out.size))
  clear hi3 hb3 HB H1
  generalize goodT L = T at *
  rw [HK.out]
  have hx4 : IsTm w3 (fun b => b < w3.heap.size) (.agg #[.int .i64 1, .int .i64 T.n, .string T.s, .slice b1 T.args.length k1]) T := by have := HX.out; rw [HK.out] at this; exact this
  have ha4 : Below w3.heap.size w3 (w3.alloc (.cells #[.int .i64 1, .int .i64 T.n, .string T.s, .slice b1 T.args.length k1] 49 (0, 0))) := (Below.refl _ _).alloc (Nat.le_refl _) _
  have hr4 := heap_alloc_new w3 (.cells #[.int .i64 1, .int .i64 T.n, .string T.s, .slice b1 T.args.length k1] 49 (0, 0))
  have HX4 := Lib.hid hx4
  have HA4 := Lib.hid ha4
  have HR4 := Lib.hid hr4
  clear hx4 ha4 hr4 HX
  go_wp2_with (with_reducible show wpList _ _ _ (⟨some 18, _, _, _, _, _⟩ :: _) _ _
               go_must (
                 refine wpList_map_start rfl 77 rfl _ (Below.refl _ _) ?_
                 intro mb w5 h5
                 have HF := Lib.hid h5
                 clear h5))
  have hw5 := HF.out.bel
  have HT0 := Lib.hid (HX4.out.below (HA4.out.trans (hw5.mono HA4.out.size)))
  have HB0 := Lib.hid (HB3.out.trans ((HA4.out.trans (hw5.mono HA4.out.size)).mono HB3.out.size))
  have HR0 := Lib.hid (row_on HR4.out hw5)
  have HM0 := Lib.hid HF.out.at_
  have hm0 : w3.heap.size < mb := by have := HF.out.low; simp at this; omega
  have hz0 : w.heap.size ≤ w3.heap.size := HB3.out.size
  clear hw5 HX4 HB3 HR4 HF HA4
  refine wp_loop_rounds 8 ?_
  rw [rounds_succ]
  obtain ⟨y0, y1, y2, y3⟩ := row4 HR0.out
  have hix : ∀ W : World, (Instr.index 78 (.agg #[.string ⟨#[118, 97, 114]⟩, .string ⟨#[110, 111, 110, 118, 97, 114]⟩, .string ⟨#[105, 110, 116, 101, 103, 101, 114]⟩, .string ⟨#[97, 116, 111, 109]⟩, .string ⟨#[97, 116, 111, 109, 105, 99]⟩, .string ⟨#[99, 111, 109, 112, 111, 117, 110, 100]⟩, .string ⟨#[99, 97, 108, 108, 97, 98, 108, 101]⟩]) (.int .i64 0)).run Try.prog W = .ok (.string ⟨#[118, 97, 114]⟩) W := fun W => by kernel_rfl
  go_wp2_with fail
  have hal := (Below.refl w5.heap.size w5).alloc (Nat.le_refl _) (.cells #[.int .i64 1, .int .i64 T.n, .string T.s, .slice b1 T.args.length k1] 49 (0, 0))
  have hrw : IsSl (w5.alloc (.cells #[.int .i64 1, .int .i64 T.n, .string T.s, .slice b1 T.args.length k1] 49 (0, 0))) AnyB (.slice (some ⟨w5.heap.size, 0, none⟩) 1 1) [T] := by
    have := row1 (x := T) (a := b1) (c := k1) (w := w5) (by rw [HK.out]; exact HT0.out.any)
    rw [HK.out] at this
    exact this
  have hdo := sh_Do_sort .k0 T AnyB _ _ _ hrw HSZ.out HC.out
  rw [HK.out] at hdo
  refine hdo.mono ?_
  rintro e u0 ⟨rfl, hbu⟩
  have hbx := hal.trans (hbu.mono hal.size)
  have hal2 := (Below.refl u0.heap.size u0).alloc (Nat.le_refl _) (.cells #[.bool true, .slice none 0 0, .slice none 0 0, .int .i64 0, .int .i64 0, .string ⟨#[]⟩, .slice none 0 0] 71 (0, 0))
  have hby := hbx.trans (hal2.mono hbx.size)
  have HRX := Lib.hid (row_on HR0.out hby)
  have HTX := Lib.hid (HT0.out.below hby)
  have HBX := Lib.hid (HB0.out.trans (hby.mono HB0.out.size))
  have HMX := Lib.hid (row_on HM0.out hby)
  have hzx := HB0.out.size
  show _
  clear y0 y1 y2 y3 hix hal hrw hdo hbu hbx hal2 hby HR0 HT0 HB0 HM0
  have hdb : (didB (true)) = .agg #[.bool true, .slice none 0 0, .slice none 0 0, .int .i64 0, .int .i64 0, .string ⟨#[]⟩, .slice none 0 0] := rfl
  simp only [didB]
  go_wp2_with (with_reducible show wpList _ _ _ (⟨none, .mapUpdate _ _ _ _, _, _, _, _⟩ :: _) _ _
               go_must (
                 refine wpList_mapUpdate_new rfl 77 (.tmp 44) (.tmp 45) (.tmp 47) rfl _ _ _ Try.underlying77 Try.underlying9 rfl mb #[] 0 rfl HMX.out (by kernel_rfl) ?_
                 intro wm1 hmu hgu
                 have HM1 := Lib.hid (show wm1.heap[mb]? = some (.map #[⟨.string ⟨#[118, 97, 114]⟩, .bool true, 0⟩] 1) from hmu)
                 have hlt4 := (Array.getElem?_eq_some_iff.1 HRX.out).1
                 have HR1 := Lib.hid ((hgu.block w3.heap.size hlt4 (fun e => by simp at e; omega)).trans HRX.out)
                 have HT1 := Lib.hid (HTX.out.imp (P' := fun b => b < w3.heap.size) (fun _ h => h) fun b hb hlt => hgu.block b hlt (fun e => by simp at e; omega))
                 have HB1 := Lib.hid (below_grown HBX.out hgu (by omega) HBX.out.size)
                 clear hmu hgu hlt4 HRX HTX HBX HMX))
  rw [rounds_succ]
  obtain ⟨y0, y1, y2, y3⟩ := row4 HR1.out
  have hix : ∀ W : World, (Instr.index 78 (.agg #[.string ⟨#[118, 97, 114]⟩, .string ⟨#[110, 111, 110, 118, 97, 114]⟩, .string ⟨#[105, 110, 116, 101, 103, 101, 114]⟩, .string ⟨#[97, 116, 111, 109]⟩, .string ⟨#[97, 116, 111, 109, 105, 99]⟩, .string ⟨#[99, 111, 109, 112, 111, 117, 110, 100]⟩, .string ⟨#[99, 97, 108, 108, 97, 98, 108, 101]⟩]) (.int .i64 1)).run Try.prog W = .ok (.string ⟨#[110, 111, 110, 118, 97, 114]⟩) W := fun W => by kernel_rfl
  go_wp2_with fail
  have hal := (Below.refl wm1.heap.size wm1).alloc (Nat.le_refl _) (.cells #[.int .i64 1, .int .i64 T.n, .string T.s, .slice b1 T.args.length k1] 49 (0, 0))
  have hrw : IsSl (wm1.alloc (.cells #[.int .i64 1, .int .i64 T.n, .string T.s, .slice b1 T.args.length k1] 49 (0, 0))) AnyB (.slice (some ⟨wm1.heap.size, 0, none⟩) 1 1) [T] := by
    have := row1 (x := T) (a := b1) (c := k1) (w := wm1) (by rw [HK.out]; exact HT1.out.any)
    rw [HK.out] at this
    exact this
  have hdo := sh_Do_sort .k1 T AnyB _ _ _ hrw HSZ.out HC.out
  rw [HK.out] at hdo
  refine hdo.mono ?_
  rintro e u1 ⟨rfl, hbu⟩
  have hbx := hal.trans (hbu.mono hal.size)
  have hal2 := (Below.refl u1.heap.size u1).alloc (Nat.le_refl _) (.cells #[.bool false, .slice none 0 0, .slice none 0 0, .int .i64 0, .int .i64 0, .string ⟨#[]⟩, .slice none 0 0] 71 (0, 0))
  have hby := hbx.trans (hal2.mono hbx.size)
  have HRX := Lib.hid (row_on HR1.out hby)
  have HTX := Lib.hid (HT1.out.below hby)
  have HBX := Lib.hid (HB1.out.trans (hby.mono HB1.out.size))
  have HMX := Lib.hid (row_on HM1.out hby)
  have hzx := HB1.out.size
  show _
  clear y0 y1 y2 y3 hix hal hrw hdo hbu hbx hal2 hby HR1 HT1 HB1 HM1
  have hdb : (didB (false)) = .agg #[.bool false, .slice none 0 0, .slice none 0 0, .int .i64 0, .int .i64 0, .string ⟨#[]⟩, .slice none 0 0] := rfl
  simp only [didB]
  go_wp2_with (with_reducible show wpList _ _ _ (⟨none, .mapUpdate _ _ _ _, _, _, _, _⟩ :: _) _ _
               go_must (
                 refine wpList_mapUpdate_new rfl 77 (.tmp 44) (.tmp 45) (.tmp 47) rfl _ _ _ Try.underlying77 Try.underlying9 rfl mb #[⟨.string ⟨#[118, 97, 114]⟩, .bool true, 0⟩] 1 rfl HMX.out (by kernel_rfl) ?_
                 intro wm2 hmu hgu
                 have HM2 := Lib.hid (show wm2.heap[mb]? = some (.map #[⟨.string ⟨#[118, 97, 114]⟩, .bool true, 0⟩, ⟨.string ⟨#[110, 111, 110, 118, 97, 114]⟩, .bool false, 1⟩] 2) from hmu)
                 have hlt4 := (Array.getElem?_eq_some_iff.1 HRX.out).1
                 have HR2 := Lib.hid ((hgu.block w3.heap.size hlt4 (fun e => by simp at e; omega)).trans HRX.out)
                 have HT2 := Lib.hid (HTX.out.imp (P' := fun b => b < w3.heap.size) (fun _ h => h) fun b hb hlt => hgu.block b hlt (fun e => by simp at e; omega))
                 have HB2 := Lib.hid (below_grown HBX.out hgu (by omega) HBX.out.size)
                 clear hmu hgu hlt4 HRX HTX HBX HMX))
  rw [rounds_succ]
  obtain ⟨y0, y1, y2, y3⟩ := row4 HR2.out
  have hix : ∀ W : World, (Instr.index 78 (.agg #[.string ⟨#[118, 97, 114]⟩, .string ⟨#[110, 111, 110, 118, 97, 114]⟩, .string ⟨#[105, 110, 116, 101, 103, 101, 114]⟩, .string ⟨#[97, 116, 111, 109]⟩, .string ⟨#[97, 116, 111, 109, 105, 99]⟩, .string ⟨#[99, 111, 109, 112, 111, 117, 110, 100]⟩, .string ⟨#[99, 97, 108, 108, 97, 98, 108, 101]⟩]) (.int .i64 2)).run Try.prog W = .ok (.string ⟨#[105, 110, 116, 101, 103, 101, 114]⟩) W := fun W => by kernel_rfl
  go_wp2_with fail
  have hal := (Below.refl wm2.heap.size wm2).alloc (Nat.le_refl _) (.cells #[.int .i64 1, .int .i64 T.n, .string T.s, .slice b1 T.args.length k1] 49 (0, 0))
  have hrw : IsSl (wm2.alloc (.cells #[.int .i64 1, .int .i64 T.n, .string T.s, .slice b1 T.args.length k1] 49 (0, 0))) AnyB (.slice (some ⟨wm2.heap.size, 0, none⟩) 1 1) [T] := by
    have := row1 (x := T) (a := b1) (c := k1) (w := wm2) (by rw [HK.out]; exact HT2.out.any)
    rw [HK.out] at this
    exact this
  have hdo := sh_Do_sort .k3 T AnyB _ _ _ hrw HSZ.out HC.out
  rw [HK.out] at hdo
  refine hdo.mono ?_
  rintro e u2 ⟨rfl, hbu⟩
  have hbx := hal.trans (hbu.mono hal.size)
  have hal2 := (Below.refl u2.heap.size u2).alloc (Nat.le_refl _) (.cells #[.bool false, .slice none 0 0, .slice none 0 0, .int .i64 0, .int .i64 0, .string ⟨#[]⟩, .slice none 0 0] 71 (0, 0))
  have hby := hbx.trans (hal2.mono hbx.size)
  have HRX := Lib.hid (row_on HR2.out hby)
  have HTX := Lib.hid (HT2.out.below hby)
  have HBX := Lib.hid (HB2.out.trans (hby.mono HB2.out.size))
  have HMX := Lib.hid (row_on HM2.out hby)
  have hzx := HB2.out.size
  show _
  clear y0 y1 y2 y3 hix hal hrw hdo hbu hbx hal2 hby HR2 HT2 HB2 HM2
  have hdb : (didB (false)) = .agg #[.bool false, .slice none 0 0, .slice none 0 0, .int .i64 0, .int .i64 0, .string ⟨#[]⟩, .slice none 0 0] := rfl
  simp only [didB]
  go_wp2_with (with_reducible show wpList _ _ _ (⟨none, .mapUpdate _ _ _ _, _, _, _, _⟩ :: _) _ _
               go_must (
                 refine wpList_mapUpdate_new rfl 77 (.tmp 44) (.tmp 45) (.tmp 47) rfl _ _ _ Try.underlying77 Try.underlying9 rfl mb #[⟨.string ⟨#[118, 97, 114]⟩, .bool true, 0⟩, ⟨.string ⟨#[110, 111, 110, 118, 97, 114]⟩, .bool false, 1⟩] 2 rfl HMX.out (by kernel_rfl) ?_
                 intro wm3 hmu hgu
                 have HM3 := Lib.hid (show wm3.heap[mb]? = some (.map #[⟨.string ⟨#[118, 97, 114]⟩, .bool true, 0⟩, ⟨.string ⟨#[110, 111, 110, 118, 97, 114]⟩, .bool false, 1⟩, ⟨.string ⟨#[105, 110, 116, 101, 103, 101, 114]⟩, .bool false, 2⟩] 3) from hmu)
                 have hlt4 := (Array.getElem?_eq_some_iff.1 HRX.out).1
                 have HR3 := Lib.hid ((hgu.block w3.heap.size hlt4 (fun e => by simp at e; omega)).trans HRX.out)
                 have HT3 := Lib.hid (HTX.out.imp (P' := fun b => b < w3.heap.size) (fun _ h => h) fun b hb hlt => hgu.block b hlt (fun e => by simp at e; omega))
                 have HB3 := Lib.hid (below_grown HBX.out hgu (by omega) HBX.out.size)
                 clear hmu hgu hlt4 HRX HTX HBX HMX))
  rw [rounds_succ]
  obtain ⟨y0, y1, y2, y3⟩ := row4 HR3.out
  have hix : ∀ W : World, (Instr.index 78 (.agg #[.string ⟨#[118, 97, 114]⟩, .string ⟨#[110, 111, 110, 118, 97, 114]⟩, .string ⟨#[105, 110, 116, 101, 103, 101, 114]⟩, .string ⟨#[97, 116, 111, 109]⟩, .string ⟨#[97, 116, 111, 109, 105, 99]⟩, .string ⟨#[99, 111, 109, 112, 111, 117, 110, 100]⟩, .string ⟨#[99, 97, 108, 108, 97, 98, 108, 101]⟩]) (.int .i64 3)).run Try.prog W = .ok (.string ⟨#[97, 116, 111, 109]⟩) W := fun W => by kernel_rfl
  go_wp2_with fail
  have hal := (Below.refl wm3.heap.size wm3).alloc (Nat.le_refl _) (.cells #[.int .i64 1, .int .i64 T.n, .string T.s, .slice b1 T.args.length k1] 49 (0, 0))
  have hrw : IsSl (wm3.alloc (.cells #[.int .i64 1, .int .i64 T.n, .string T.s, .slice b1 T.args.length k1] 49 (0, 0))) AnyB (.slice (some ⟨wm3.heap.size, 0, none⟩) 1 1) [T] := by
    have := row1 (x := T) (a := b1) (c := k1) (w := wm3) (by rw [HK.out]; exact HT3.out.any)
    rw [HK.out] at this
    exact this
  have hdo := sh_Do_sort .k2 T AnyB _ _ _ hrw HSZ.out HC.out
  rw [HK.out] at hdo
  refine hdo.mono ?_
  rintro e u3 ⟨rfl, hbu⟩
  have hbx := hal.trans (hbu.mono hal.size)
  have hal2 := (Below.refl u3.heap.size u3).alloc (Nat.le_refl _) (.cells #[.bool false, .slice none 0 0, .slice none 0 0, .int .i64 0, .int .i64 0, .string ⟨#[]⟩, .slice none 0 0] 71 (0, 0))
  have hby := hbx.trans (hal2.mono hbx.size)
  have HRX := Lib.hid (row_on HR3.out hby)
  have HTX := Lib.hid (HT3.out.below hby)
  have HBX := Lib.hid (HB3.out.trans (hby.mono HB3.out.size))
  have HMX := Lib.hid (row_on HM3.out hby)
  have hzx := HB3.out.size
  show _
  clear y0 y1 y2 y3 hix hal hrw hdo hbu hbx hal2 hby HR3 HT3 HB3 HM3
  have hdb : (didB (false)) = .agg #[.bool false, .slice none 0 0, .slice none 0 0, .int .i64 0, .int .i64 0, .string ⟨#[]⟩, .slice none 0 0] := rfl
  simp only [didB]
  go_wp2_with (with_reducible show wpList _ _ _ (⟨none, .mapUpdate _ _ _ _, _, _, _, _⟩ :: _) _ _
               go_must (
                 refine wpList_mapUpdate_new rfl 77 (.tmp 44) (.tmp 45) (.tmp 47) rfl _ _ _ Try.underlying77 Try.underlying9 rfl mb #[⟨.string ⟨#[118, 97, 114]⟩, .bool true, 0⟩, ⟨.string ⟨#[110, 111, 110, 118, 97, 114]⟩, .bool false, 1⟩, ⟨.string ⟨#[105, 110, 116, 101, 103, 101, 114]⟩, .bool false, 2⟩] 3 rfl HMX.out (by kernel_rfl) ?_
                 intro wm4 hmu hgu
                 have HM4 := Lib.hid (show wm4.heap[mb]? = some (.map #[⟨.string ⟨#[118, 97, 114]⟩, .bool true, 0⟩, ⟨.string ⟨#[110, 111, 110, 118, 97, 114]⟩, .bool false, 1⟩, ⟨.string ⟨#[105, 110, 116, 101, 103, 101, 114]⟩, .bool false, 2⟩, ⟨.string ⟨#[97, 116, 111, 109]⟩, .bool false, 3⟩] 4) from hmu)
                 have hlt4 := (Array.getElem?_eq_some_iff.1 HRX.out).1
                 have HR4 := Lib.hid ((hgu.block w3.heap.size hlt4 (fun e => by simp at e; omega)).trans HRX.out)
                 have HT4 := Lib.hid (HTX.out.imp (P' := fun b => b < w3.heap.size) (fun _ h => h) fun b hb hlt => hgu.block b hlt (fun e => by simp at e; omega))
                 have HB4 := Lib.hid (below_grown HBX.out hgu (by omega) HBX.out.size)
                 clear hmu hgu hlt4 HRX HTX HBX HMX))
  rw [rounds_succ]
  obtain ⟨y0, y1, y2, y3⟩ := row4 HR4.out
  have hix : ∀ W : World, (Instr.index 78 (.agg #[.string ⟨#[118, 97, 114]⟩, .string ⟨#[110, 111, 110, 118, 97, 114]⟩, .string ⟨#[105, 110, 116, 101, 103, 101, 114]⟩, .string ⟨#[97, 116, 111, 109]⟩, .string ⟨#[97, 116, 111, 109, 105, 99]⟩, .string ⟨#[99, 111, 109, 112, 111, 117, 110, 100]⟩, .string ⟨#[99, 97, 108, 108, 97, 98, 108, 101]⟩]) (.int .i64 4)).run Try.prog W = .ok (.string ⟨#[97, 116, 111, 109, 105, 99]⟩) W := fun W => by kernel_rfl
  go_wp2_with fail
  have hal := (Below.refl wm4.heap.size wm4).alloc (Nat.le_refl _) (.cells #[.int .i64 1, .int .i64 T.n, .string T.s, .slice b1 T.args.length k1] 49 (0, 0))
  have hrw : IsSl (wm4.alloc (.cells #[.int .i64 1, .int .i64 T.n, .string T.s, .slice b1 T.args.length k1] 49 (0, 0))) AnyB (.slice (some ⟨wm4.heap.size, 0, none⟩) 1 1) [T] := by
    have := row1 (x := T) (a := b1) (c := k1) (w := wm4) (by rw [HK.out]; exact HT4.out.any)
    rw [HK.out] at this
    exact this
  have hdo := sh_Do_sort .k4 T AnyB _ _ _ hrw HSZ.out HC.out
  rw [HK.out] at hdo
  refine hdo.mono ?_
  rintro e u4 ⟨rfl, hbu⟩
  have hbx := hal.trans (hbu.mono hal.size)
  have hal2 := (Below.refl u4.heap.size u4).alloc (Nat.le_refl _) (.cells #[.bool false, .slice none 0 0, .slice none 0 0, .int .i64 0, .int .i64 0, .string ⟨#[]⟩, .slice none 0 0] 71 (0, 0))
  have hby := hbx.trans (hal2.mono hbx.size)
  have HRX := Lib.hid (row_on HR4.out hby)
  have HTX := Lib.hid (HT4.out.below hby)
  have HBX := Lib.hid (HB4.out.trans (hby.mono HB4.out.size))
  have HMX := Lib.hid (row_on HM4.out hby)
  have hzx := HB4.out.size
  show _
  clear y0 y1 y2 y3 hix hal hrw hdo hbu hbx hal2 hby HR4 HT4 HB4 HM4
  have hdb : (didB (false)) = .agg #[.bool false, .slice none 0 0, .slice none 0 0, .int .i64 0, .int .i64 0, .string ⟨#[]⟩, .slice none 0 0] := rfl
  simp only [didB]
  go_wp2_with (with_reducible show wpList _ _ _ (⟨none, .mapUpdate _ _ _ _, _, _, _, _⟩ :: _) _ _
               go_must (
                 refine wpList_mapUpdate_new rfl 77 (.tmp 44) (.tmp 45) (.tmp 47) rfl _ _ _ Try.underlying77 Try.underlying9 rfl mb #[⟨.string ⟨#[118, 97, 114]⟩, .bool true, 0⟩, ⟨.string ⟨#[110, 111, 110, 118, 97, 114]⟩, .bool false, 1⟩, ⟨.string ⟨#[105, 110, 116, 101, 103, 101, 114]⟩, .bool false, 2⟩, ⟨.string ⟨#[97, 116, 111, 109]⟩, .bool false, 3⟩] 4 rfl HMX.out (by kernel_rfl) ?_
                 intro wm5 hmu hgu
                 have HM5 := Lib.hid (show wm5.heap[mb]? = some (.map #[⟨.string ⟨#[118, 97, 114]⟩, .bool true, 0⟩, ⟨.string ⟨#[110, 111, 110, 118, 97, 114]⟩, .bool false, 1⟩, ⟨.string ⟨#[105, 110, 116, 101, 103, 101, 114]⟩, .bool false, 2⟩, ⟨.string ⟨#[97, 116, 111, 109]⟩, .bool false, 3⟩, ⟨.string ⟨#[97, 116, 111, 109, 105, 99]⟩, .bool false, 4⟩] 5) from hmu)
                 have hlt4 := (Array.getElem?_eq_some_iff.1 HRX.out).1
                 have HR5 := Lib.hid ((hgu.block w3.heap.size hlt4 (fun e => by simp at e; omega)).trans HRX.out)
                 have HT5 := Lib.hid (HTX.out.imp (P' := fun b => b < w3.heap.size) (fun _ h => h) fun b hb hlt => hgu.block b hlt (fun e => by simp at e; omega))
                 have HB5 := Lib.hid (below_grown HBX.out hgu (by omega) HBX.out.size)
                 clear hmu hgu hlt4 HRX HTX HBX HMX))
  rw [rounds_succ]
  obtain ⟨y0, y1, y2, y3⟩ := row4 HR5.out
  have hix : ∀ W : World, (Instr.index 78 (.agg #[.string ⟨#[118, 97, 114]⟩, .string ⟨#[110, 111, 110, 118, 97, 114]⟩, .string ⟨#[105, 110, 116, 101, 103, 101, 114]⟩, .string ⟨#[97, 116, 111, 109]⟩, .string ⟨#[97, 116, 111, 109, 105, 99]⟩, .string ⟨#[99, 111, 109, 112, 111, 117, 110, 100]⟩, .string ⟨#[99, 97, 108, 108, 97, 98, 108, 101]⟩]) (.int .i64 5)).run Try.prog W = .ok (.string ⟨#[99, 111, 109, 112, 111, 117, 110, 100]⟩) W := fun W => by kernel_rfl
  go_wp2_with fail
  have hal := (Below.refl wm5.heap.size wm5).alloc (Nat.le_refl _) (.cells #[.int .i64 1, .int .i64 T.n, .string T.s, .slice b1 T.args.length k1] 49 (0, 0))
  have hrw : IsSl (wm5.alloc (.cells #[.int .i64 1, .int .i64 T.n, .string T.s, .slice b1 T.args.length k1] 49 (0, 0))) AnyB (.slice (some ⟨wm5.heap.size, 0, none⟩) 1 1) [T] := by
    have := row1 (x := T) (a := b1) (c := k1) (w := wm5) (by rw [HK.out]; exact HT5.out.any)
    rw [HK.out] at this
    exact this
  have hdo := sh_Do_sort .k5 T AnyB _ _ _ hrw HSZ.out HC.out
  rw [HK.out] at hdo
  refine hdo.mono ?_
  rintro e u5 ⟨rfl, hbu⟩
  have hbx := hal.trans (hbu.mono hal.size)
  have hal2 := (Below.refl u5.heap.size u5).alloc (Nat.le_refl _) (.cells #[.bool false, .slice none 0 0, .slice none 0 0, .int .i64 0, .int .i64 0, .string ⟨#[]⟩, .slice none 0 0] 71 (0, 0))
  have hby := hbx.trans (hal2.mono hbx.size)
  have HRX := Lib.hid (row_on HR5.out hby)
  have HTX := Lib.hid (HT5.out.below hby)
  have HBX := Lib.hid (HB5.out.trans (hby.mono HB5.out.size))
  have HMX := Lib.hid (row_on HM5.out hby)
  have hzx := HB5.out.size
  show _
  clear y0 y1 y2 y3 hix hal hrw hdo hbu hbx hal2 hby HR5 HT5 HB5 HM5
  have hdb : (didB (false)) = .agg #[.bool false, .slice none 0 0, .slice none 0 0, .int .i64 0, .int .i64 0, .string ⟨#[]⟩, .slice none 0 0] := rfl
  simp only [didB]
  go_wp2_with (with_reducible show wpList _ _ _ (⟨none, .mapUpdate _ _ _ _, _, _, _, _⟩ :: _) _ _
               go_must (
                 refine wpList_mapUpdate_new rfl 77 (.tmp 44) (.tmp 45) (.tmp 47) rfl _ _ _ Try.underlying77 Try.underlying9 rfl mb #[⟨.string ⟨#[118, 97, 114]⟩, .bool true, 0⟩, ⟨.string ⟨#[110, 111, 110, 118, 97, 114]⟩, .bool false, 1⟩, ⟨.string ⟨#[105, 110, 116, 101, 103, 101, 114]⟩, .bool false, 2⟩, ⟨.string ⟨#[97, 116, 111, 109]⟩, .bool false, 3⟩, ⟨.string ⟨#[97, 116, 111, 109, 105, 99]⟩, .bool false, 4⟩] 5 rfl HMX.out (by kernel_rfl) ?_
                 intro wm6 hmu hgu
                 have HM6 := Lib.hid (show wm6.heap[mb]? = some (.map #[⟨.string ⟨#[118, 97, 114]⟩, .bool true, 0⟩, ⟨.string ⟨#[110, 111, 110, 118, 97, 114]⟩, .bool false, 1⟩, ⟨.string ⟨#[105, 110, 116, 101, 103, 101, 114]⟩, .bool false, 2⟩, ⟨.string ⟨#[97, 116, 111, 109]⟩, .bool false, 3⟩, ⟨.string ⟨#[97, 116, 111, 109, 105, 99]⟩, .bool false, 4⟩, ⟨.string ⟨#[99, 111, 109, 112, 111, 117, 110, 100]⟩, .bool false, 5⟩] 6) from hmu)
                 have hlt4 := (Array.getElem?_eq_some_iff.1 HRX.out).1
                 have HR6 := Lib.hid ((hgu.block w3.heap.size hlt4 (fun e => by simp at e; omega)).trans HRX.out)
                 have HT6 := Lib.hid (HTX.out.imp (P' := fun b => b < w3.heap.size) (fun _ h => h) fun b hb hlt => hgu.block b hlt (fun e => by simp at e; omega))
                 have HB6 := Lib.hid (below_grown HBX.out hgu (by omega) HBX.out.size)
                 clear hmu hgu hlt4 HRX HTX HBX HMX))
  rw [rounds_succ]
  obtain ⟨y0, y1, y2, y3⟩ := row4 HR6.out
  have hix : ∀ W : World, (Instr.index 78 (.agg #[.string ⟨#[118, 97, 114]⟩, .string ⟨#[110, 111, 110, 118, 97, 114]⟩, .string ⟨#[105, 110, 116, 101, 103, 101, 114]⟩, .string ⟨#[97, 116, 111, 109]⟩, .string ⟨#[97, 116, 111, 109, 105, 99]⟩, .string ⟨#[99, 111, 109, 112, 111, 117, 110, 100]⟩, .string ⟨#[99, 97, 108, 108, 97, 98, 108, 101]⟩]) (.int .i64 6)).run Try.prog W = .ok (.string ⟨#[99, 97, 108, 108, 97, 98, 108, 101]⟩) W := fun W => by kernel_rfl
  go_wp2_with fail
  have hal := (Below.refl wm6.heap.size wm6).alloc (Nat.le_refl _) (.cells #[.int .i64 1, .int .i64 T.n, .string T.s, .slice b1 T.args.length k1] 49 (0, 0))
  have hrw : IsSl (wm6.alloc (.cells #[.int .i64 1, .int .i64 T.n, .string T.s, .slice b1 T.args.length k1] 49 (0, 0))) AnyB (.slice (some ⟨wm6.heap.size, 0, none⟩) 1 1) [T] := by
    have := row1 (x := T) (a := b1) (c := k1) (w := wm6) (by rw [HK.out]; exact HT6.out.any)
    rw [HK.out] at this
    exact this
  have hdo := sh_Do_sort .k6 T AnyB _ _ _ hrw HSZ.out HC.out
  rw [HK.out] at hdo
  refine hdo.mono ?_
  rintro e u6 ⟨rfl, hbu⟩
  have hbx := hal.trans (hbu.mono hal.size)
  have hal2 := (Below.refl u6.heap.size u6).alloc (Nat.le_refl _) (.cells #[.bool false, .slice none 0 0, .slice none 0 0, .int .i64 0, .int .i64 0, .string ⟨#[]⟩, .slice none 0 0] 71 (0, 0))
  have hby := hbx.trans (hal2.mono hbx.size)
  have HRX := Lib.hid (row_on HR6.out hby)
  have HTX := Lib.hid (HT6.out.below hby)
  have HBX := Lib.hid (HB6.out.trans (hby.mono HB6.out.size))
  have HMX := Lib.hid (row_on HM6.out hby)
  have hzx := HB6.out.size
  show _
  clear y0 y1 y2 y3 hix hal hrw hdo hbu hbx hal2 hby HR6 HT6 HB6 HM6
  have hdb : (didB (false)) = .agg #[.bool false, .slice none 0 0, .slice none 0 0, .int .i64 0, .int .i64 0, .string ⟨#[]⟩, .slice none 0 0] := rfl
  simp only [didB]
  go_wp2_with (with_reducible show wpList _ _ _ (⟨none, .mapUpdate _ _ _ _, _, _, _, _⟩ :: _) _ _
               go_must (
                 refine wpList_mapUpdate_new rfl 77 (.tmp 44) (.tmp 45) (.tmp 47) rfl _ _ _ Try.underlying77 Try.underlying9 rfl mb #[⟨.string ⟨#[118, 97, 114]⟩, .bool true, 0⟩, ⟨.string ⟨#[110, 111, 110, 118, 97, 114]⟩, .bool false, 1⟩, ⟨.string ⟨#[105, 110, 116, 101, 103, 101, 114]⟩, .bool false, 2⟩, ⟨.string ⟨#[97, 116, 111, 109]⟩, .bool false, 3⟩, ⟨.string ⟨#[97, 116, 111, 109, 105, 99]⟩, .bool false, 4⟩, ⟨.string ⟨#[99, 111, 109, 112, 111, 117, 110, 100]⟩, .bool false, 5⟩] 6 rfl HMX.out (by kernel_rfl) ?_
                 intro wm7 hmu hgu
                 have HM7 := Lib.hid (show wm7.heap[mb]? = some (.map #[⟨.string ⟨#[118, 97, 114]⟩, .bool true, 0⟩, ⟨.string ⟨#[110, 111, 110, 118, 97, 114]⟩, .bool false, 1⟩, ⟨.string ⟨#[105, 110, 116, 101, 103, 101, 114]⟩, .bool false, 2⟩, ⟨.string ⟨#[97, 116, 111, 109]⟩, .bool false, 3⟩, ⟨.string ⟨#[97, 116, 111, 109, 105, 99]⟩, .bool false, 4⟩, ⟨.string ⟨#[99, 111, 109, 112, 111, 117, 110, 100]⟩, .bool false, 5⟩, ⟨.string ⟨#[99, 97, 108, 108, 97, 98, 108, 101]⟩, .bool false, 6⟩] 7) from hmu)
                 have hlt4 := (Array.getElem?_eq_some_iff.1 HRX.out).1
                 have HR7 := Lib.hid ((hgu.block w3.heap.size hlt4 (fun e => by simp at e; omega)).trans HRX.out)
                 have HT7 := Lib.hid (HTX.out.imp (P' := fun b => b < w3.heap.size) (fun _ h => h) fun b hb hlt => hgu.block b hlt (fun e => by simp at e; omega))
                 have HB7 := Lib.hid (below_grown HBX.out hgu (by omega) HBX.out.size)
                 clear hmu hgu hlt4 HRX HTX HBX HMX))
  rw [rounds_succ]
  go_wp2
  refine wp_loop_rounds 5 ?_
  rw [rounds_succ]
  have hix : ∀ W : World, (Instr.index 79 (.agg #[.string ⟨#[118, 97, 114]⟩, .string ⟨#[105, 110, 116, 101, 103, 101, 114]⟩, .string ⟨#[97, 116, 111, 109]⟩, .string ⟨#[99, 111, 109, 112, 111, 117, 110, 100]⟩]) (.int .i64 0)).run Try.prog W = .ok (.string ⟨#[118, 97, 114]⟩) W := fun W => by kernel_rfl
  go_wp2_with (with_reducible show wpList _ _ _ (⟨some 55, _, _, _, _, _⟩ :: _) _ _
               go_must (
                 refine wpList_lookup_val rfl 77 (.tmp 53) (.tmp 54) rfl _ _ _ Try.underlying77 Try.underlying9 rfl mb #[⟨.string ⟨#[118, 97, 114]⟩, .bool true, 0⟩, ⟨.string ⟨#[110, 111, 110, 118, 97, 114]⟩, .bool false, 1⟩, ⟨.string ⟨#[105, 110, 116, 101, 103, 101, 114]⟩, .bool false, 2⟩, ⟨.string ⟨#[97, 116, 111, 109]⟩, .bool false, 3⟩, ⟨.string ⟨#[97, 116, 111, 109, 105, 99]⟩, .bool false, 4⟩, ⟨.string ⟨#[99, 111, 109, 112, 111, 117, 110, 100]⟩, .bool false, 5⟩, ⟨.string ⟨#[99, 97, 108, 108, 97, 98, 108, 101]⟩, .bool false, 6⟩] 7 rfl HM7.out (0, .bool true) (by kernel_rfl) ?_))
  clear hix
  rw [rounds_succ]
  have hix : ∀ W : World, (Instr.index 79 (.agg #[.string ⟨#[118, 97, 114]⟩, .string ⟨#[105, 110, 116, 101, 103, 101, 114]⟩, .string ⟨#[97, 116, 111, 109]⟩, .string ⟨#[99, 111, 109, 112, 111, 117, 110, 100]⟩]) (.int .i64 1)).run Try.prog W = .ok (.string ⟨#[105, 110, 116, 101, 103, 101, 114]⟩) W := fun W => by kernel_rfl
  go_wp2_with (with_reducible show wpList _ _ _ (⟨some 55, _, _, _, _, _⟩ :: _) _ _
               go_must (
                 refine wpList_lookup_val rfl 77 (.tmp 53) (.tmp 54) rfl _ _ _ Try.underlying77 Try.underlying9 rfl mb #[⟨.string ⟨#[118, 97, 114]⟩, .bool true, 0⟩, ⟨.string ⟨#[110, 111, 110, 118, 97, 114]⟩, .bool false, 1⟩, ⟨.string ⟨#[105, 110, 116, 101, 103, 101, 114]⟩, .bool false, 2⟩, ⟨.string ⟨#[97, 116, 111, 109]⟩, .bool false, 3⟩, ⟨.string ⟨#[97, 116, 111, 109, 105, 99]⟩, .bool false, 4⟩, ⟨.string ⟨#[99, 111, 109, 112, 111, 117, 110, 100]⟩, .bool false, 5⟩, ⟨.string ⟨#[99, 97, 108, 108, 97, 98, 108, 101]⟩, .bool false, 6⟩] 7 rfl HM7.out (2, .bool false) (by kernel_rfl) ?_))
  clear hix
  rw [rounds_succ]
  have hix : ∀ W : World, (Instr.index 79 (.agg #[.string ⟨#[118, 97, 114]⟩, .string ⟨#[105, 110, 116, 101, 103, 101, 114]⟩, .string ⟨#[97, 116, 111, 109]⟩, .string ⟨#[99, 111, 109, 112, 111, 117, 110, 100]⟩]) (.int .i64 2)).run Try.prog W = .ok (.string ⟨#[97, 116, 111, 109]⟩) W := fun W => by kernel_rfl
  go_wp2_with (with_reducible show wpList _ _ _ (⟨some 55, _, _, _, _, _⟩ :: _) _ _
               go_must (
                 refine wpList_lookup_val rfl 77 (.tmp 53) (.tmp 54) rfl _ _ _ Try.underlying77 Try.underlying9 rfl mb #[⟨.string ⟨#[118, 97, 114]⟩, .bool true, 0⟩, ⟨.string ⟨#[110, 111, 110, 118, 97, 114]⟩, .bool false, 1⟩, ⟨.string ⟨#[105, 110, 116, 101, 103, 101, 114]⟩, .bool false, 2⟩, ⟨.string ⟨#[97, 116, 111, 109]⟩, .bool false, 3⟩, ⟨.string ⟨#[97, 116, 111, 109, 105, 99]⟩, .bool false, 4⟩, ⟨.string ⟨#[99, 111, 109, 112, 111, 117, 110, 100]⟩, .bool false, 5⟩, ⟨.string ⟨#[99, 97, 108, 108, 97, 98, 108, 101]⟩, .bool false, 6⟩] 7 rfl HM7.out (3, .bool false) (by kernel_rfl) ?_))
  clear hix
  rw [rounds_succ]
  have hix : ∀ W : World, (Instr.index 79 (.agg #[.string ⟨#[118, 97, 114]⟩, .string ⟨#[105, 110, 116, 101, 103, 101, 114]⟩, .string ⟨#[97, 116, 111, 109]⟩, .string ⟨#[99, 111, 109, 112, 111, 117, 110, 100]⟩]) (.int .i64 3)).run Try.prog W = .ok (.string ⟨#[99, 111, 109, 112, 111, 117, 110, 100]⟩) W := fun W => by kernel_rfl
  go_wp2_with (with_reducible show wpList _ _ _ (⟨some 55, _, _, _, _, _⟩ :: _) _ _
               go_must (
                 refine wpList_lookup_val rfl 77 (.tmp 53) (.tmp 54) rfl _ _ _ Try.underlying77 Try.underlying9 rfl mb #[⟨.string ⟨#[118, 97, 114]⟩, .bool true, 0⟩, ⟨.string ⟨#[110, 111, 110, 118, 97, 114]⟩, .bool false, 1⟩, ⟨.string ⟨#[105, 110, 116, 101, 103, 101, 114]⟩, .bool false, 2⟩, ⟨.string ⟨#[97, 116, 111, 109]⟩, .bool false, 3⟩, ⟨.string ⟨#[97, 116, 111, 109, 105, 99]⟩, .bool false, 4⟩, ⟨.string ⟨#[99, 111, 109, 112, 111, 117, 110, 100]⟩, .bool false, 5⟩, ⟨.string ⟨#[99, 97, 108, 108, 97, 98, 108, 101]⟩, .bool false, 6⟩] 7 rfl HM7.out (5, .bool false) (by kernel_rfl) ?_))
  clear hix
  rw [rounds_succ]
  go_wp2_with (first
    | (with_reducible show wpList _ _ _ (⟨some 63, _, _, _, _, _⟩ :: _) _ _
       refine wpList_lookup_valG (by rfl) 77 (.tmp 62) (.const (.string ⟨#[110, 111, 110, 118, 97, 114]⟩)) rfl _ _ _ Try.underlying77 Try.underlying9 rfl mb #[⟨.string ⟨#[118, 97, 114]⟩, .bool true, 0⟩, ⟨.string ⟨#[110, 111, 110, 118, 97, 114]⟩, .bool false, 1⟩, ⟨.string ⟨#[105, 110, 116, 101, 103, 101, 114]⟩, .bool false, 2⟩, ⟨.string ⟨#[97, 116, 111, 109]⟩, .bool false, 3⟩, ⟨.string ⟨#[97, 116, 111, 109, 105, 99]⟩, .bool false, 4⟩, ⟨.string ⟨#[99, 111, 109, 112, 111, 117, 110, 100]⟩, .bool false, 5⟩, ⟨.string ⟨#[99, 97, 108, 108, 97, 98, 108, 101]⟩, .bool false, 6⟩] 7 rfl HM7.out (1, .bool false) (by kernel_rfl) ?_)
    | (with_reducible show wpList _ _ _ (⟨some 65, _, _, _, _, _⟩ :: _) _ _
       refine wpList_lookup_valG (by rfl) 77 (.tmp 64) (.const (.string ⟨#[118, 97, 114]⟩)) rfl _ _ _ Try.underlying77 Try.underlying9 rfl mb #[⟨.string ⟨#[118, 97, 114]⟩, .bool true, 0⟩, ⟨.string ⟨#[110, 111, 110, 118, 97, 114]⟩, .bool false, 1⟩, ⟨.string ⟨#[105, 110, 116, 101, 103, 101, 114]⟩, .bool false, 2⟩, ⟨.string ⟨#[97, 116, 111, 109]⟩, .bool false, 3⟩, ⟨.string ⟨#[97, 116, 111, 109, 105, 99]⟩, .bool false, 4⟩, ⟨.string ⟨#[99, 111, 109, 112, 111, 117, 110, 100]⟩, .bool false, 5⟩, ⟨.string ⟨#[99, 97, 108, 108, 97, 98, 108, 101]⟩, .bool false, 6⟩] 7 rfl HM7.out (0, .bool true) (by kernel_rfl) ?_)
    | (with_reducible show wpList _ _ _ (⟨some 70, _, _, _, _, _⟩ :: _) _ _
       refine wpList_lookup_valG (by rfl) 77 (.tmp 69) (.const (.string ⟨#[97, 116, 111, 109, 105, 99]⟩)) rfl _ _ _ Try.underlying77 Try.underlying9 rfl mb #[⟨.string ⟨#[118, 97, 114]⟩, .bool true, 0⟩, ⟨.string ⟨#[110, 111, 110, 118, 97, 114]⟩, .bool false, 1⟩, ⟨.string ⟨#[105, 110, 116, 101, 103, 101, 114]⟩, .bool false, 2⟩, ⟨.string ⟨#[97, 116, 111, 109]⟩, .bool false, 3⟩, ⟨.string ⟨#[97, 116, 111, 109, 105, 99]⟩, .bool false, 4⟩, ⟨.string ⟨#[99, 111, 109, 112, 111, 117, 110, 100]⟩, .bool false, 5⟩, ⟨.string ⟨#[99, 97, 108, 108, 97, 98, 108, 101]⟩, .bool false, 6⟩] 7 rfl HM7.out (4, .bool false) (by kernel_rfl) ?_)
    | (with_reducible show wpList _ _ _ (⟨some 72, _, _, _, _, _⟩ :: _) _ _
       refine wpList_lookup_valG (by rfl) 77 (.tmp 71) (.const (.string ⟨#[105, 110, 116, 101, 103, 101, 114]⟩)) rfl _ _ _ Try.underlying77 Try.underlying9 rfl mb #[⟨.string ⟨#[118, 97, 114]⟩, .bool true, 0⟩, ⟨.string ⟨#[110, 111, 110, 118, 97, 114]⟩, .bool false, 1⟩, ⟨.string ⟨#[105, 110, 116, 101, 103, 101, 114]⟩, .bool false, 2⟩, ⟨.string ⟨#[97, 116, 111, 109]⟩, .bool false, 3⟩, ⟨.string ⟨#[97, 116, 111, 109, 105, 99]⟩, .bool false, 4⟩, ⟨.string ⟨#[99, 111, 109, 112, 111, 117, 110, 100]⟩, .bool false, 5⟩, ⟨.string ⟨#[99, 97, 108, 108, 97, 98, 108, 101]⟩, .bool false, 6⟩] 7 rfl HM7.out (2, .bool false) (by kernel_rfl) ?_)
    | (with_reducible show wpList _ _ _ (⟨some 75, _, _, _, _, _⟩ :: _) _ _
       refine wpList_lookup_valG (by rfl) 77 (.tmp 74) (.const (.string ⟨#[97, 116, 111, 109]⟩)) rfl _ _ _ Try.underlying77 Try.underlying9 rfl mb #[⟨.string ⟨#[118, 97, 114]⟩, .bool true, 0⟩, ⟨.string ⟨#[110, 111, 110, 118, 97, 114]⟩, .bool false, 1⟩, ⟨.string ⟨#[105, 110, 116, 101, 103, 101, 114]⟩, .bool false, 2⟩, ⟨.string ⟨#[97, 116, 111, 109]⟩, .bool false, 3⟩, ⟨.string ⟨#[97, 116, 111, 109, 105, 99]⟩, .bool false, 4⟩, ⟨.string ⟨#[99, 111, 109, 112, 111, 117, 110, 100]⟩, .bool false, 5⟩, ⟨.string ⟨#[99, 97, 108, 108, 97, 98, 108, 101]⟩, .bool false, 6⟩] 7 rfl HM7.out (3, .bool false) (by kernel_rfl) ?_)
    | (with_reducible show wpList _ _ _ (⟨some 81, _, _, _, _, _⟩ :: _) _ _
       refine wpList_lookup_valG (by rfl) 77 (.tmp 80) (.const (.string ⟨#[99, 97, 108, 108, 97, 98, 108, 101]⟩)) rfl _ _ _ Try.underlying77 Try.underlying9 rfl mb #[⟨.string ⟨#[118, 97, 114]⟩, .bool true, 0⟩, ⟨.string ⟨#[110, 111, 110, 118, 97, 114]⟩, .bool false, 1⟩, ⟨.string ⟨#[105, 110, 116, 101, 103, 101, 114]⟩, .bool false, 2⟩, ⟨.string ⟨#[97, 116, 111, 109]⟩, .bool false, 3⟩, ⟨.string ⟨#[97, 116, 111, 109, 105, 99]⟩, .bool false, 4⟩, ⟨.string ⟨#[99, 111, 109, 112, 111, 117, 110, 100]⟩, .bool false, 5⟩, ⟨.string ⟨#[99, 97, 108, 108, 97, 98, 108, 101]⟩, .bool false, 6⟩] 7 rfl HM7.out (6, .bool false) (by kernel_rfl) ?_)
    | (with_reducible show wpList _ _ _ (⟨some 83, _, _, _, _, _⟩ :: _) _ _
       refine wpList_lookup_valG (by rfl) 77 (.tmp 82) (.const (.string ⟨#[97, 116, 111, 109]⟩)) rfl _ _ _ Try.underlying77 Try.underlying9 rfl mb #[⟨.string ⟨#[118, 97, 114]⟩, .bool true, 0⟩, ⟨.string ⟨#[110, 111, 110, 118, 97, 114]⟩, .bool false, 1⟩, ⟨.string ⟨#[105, 110, 116, 101, 103, 101, 114]⟩, .bool false, 2⟩, ⟨.string ⟨#[97, 116, 111, 109]⟩, .bool false, 3⟩, ⟨.string ⟨#[97, 116, 111, 109, 105, 99]⟩, .bool false, 4⟩, ⟨.string ⟨#[99, 111, 109, 112, 111, 117, 110, 100]⟩, .bool false, 5⟩, ⟨.string ⟨#[99, 97, 108, 108, 97, 98, 108, 101]⟩, .bool false, 6⟩] 7 rfl HM7.out (3, .bool false) (by kernel_rfl) ?_)
    | (with_reducible show wpList _ _ _ (⟨some 86, _, _, _, _, _⟩ :: _) _ _
       refine wpList_lookup_valG (by rfl) 77 (.tmp 85) (.const (.string ⟨#[99, 111, 109, 112, 111, 117, 110, 100]⟩)) rfl _ _ _ Try.underlying77 Try.underlying9 rfl mb #[⟨.string ⟨#[118, 97, 114]⟩, .bool true, 0⟩, ⟨.string ⟨#[110, 111, 110, 118, 97, 114]⟩, .bool false, 1⟩, ⟨.string ⟨#[105, 110, 116, 101, 103, 101, 114]⟩, .bool false, 2⟩, ⟨.string ⟨#[97, 116, 111, 109]⟩, .bool false, 3⟩, ⟨.string ⟨#[97, 116, 111, 109, 105, 99]⟩, .bool false, 4⟩, ⟨.string ⟨#[99, 111, 109, 112, 111, 117, 110, 100]⟩, .bool false, 5⟩, ⟨.string ⟨#[99, 97, 108, 108, 97, 98, 108, 101]⟩, .bool false, 6⟩] 7 rfl HM7.out (5, .bool false) (by kernel_rfl) ?_))
  go_ret
  exact ⟨rfl, HB7.out⟩
set_option maxRecDepth 100000 in
set_option maxHeartbeats 16000000 in
theorem law_kinds2 (L : List Pt) (v1 : Value) (w : World) (h1 : PtSl w v1 L) (g1 : L.length ≤ 60) (hk : (goodT L).k = 2) : Calls Try.prog 8 #[v1] w (Says true w) := by
  obtain ⟨a1, c1, rfl, hc1, hm1⟩ := h1.form
  have H1 := Lib.hid h1
  have HK := Lib.hid hk
  have HC := Lib.hid (good_check17 L g1)
  clear h1 hk
  have d1 : decide (60 < (L.length : Int)) = false := by simp; omega
  have HSZ := Lib.hid (show (goodT L).size ≤ 1000000000 by have := goodT_size L; omega)
  go_enter Try.func8, Try.ntmps8
  go_wp2_with fail
  refine (l17_alive _).mono ?_
  rintro e1 w1 ⟨rfl, hb1⟩
  have HB := Lib.hid hb1
  clear hb1
  go_wp2_with fail
  refine (ref_great L _ _ (H1.out.below HB.out)).mono ?_
  rintro e2 w2 ⟨rfl, rfl⟩
  go_wp2_with fail
  refine (ref_good L _ _ (by omega) (H1.out.below HB.out)).mono ?_
  rintro e3 w3 ⟨v3, rfl, hi3, hb3⟩
  obtain ⟨b1, k1, rfl⟩ := hi3.form
  have HX := Lib.hid (hi3.lt.imp (P' := fun b => b < w3.heap.size) (fun b h => h.2) fun _ _ _ => rfl)
  have HB3 := Lib.hid (HB.out.trans (hb3.mono HB.out.size))
  clear hi3 hb3 HB H1
  generalize goodT L = T at *
  rw [HK.out]
  have hx4 : IsTm w3 (fun b => b < w3.heap.size) (.agg #[.int .i64 2, .int .i64 T.n, .string T.s, .slice b1 T.args.length k1]) T := by have := HX.out; rw [HK.out] at this; exact this
  have ha4 : Below w3.heap.size w3 (w3.alloc (.cells #[.int .i64 2, .int .i64 T.n, .string T.s, .slice b1 T.args.length k1] 49 (0, 0))) := (Below.refl _ _).alloc (Nat.le_refl _) _
  have hr4 := heap_alloc_new w3 (.cells #[.int .i64 2, .int .i64 T.n, .string T.s, .slice b1 T.args.length k1] 49 (0, 0))
  have HX4 := Lib.hid hx4
  have HA4 := Lib.hid ha4
  have HR4 := Lib.hid hr4
  clear hx4 ha4 hr4 HX
  go_wp2_with (with_reducible show wpList _ _ _ (⟨some 18, _, _, _, _, _⟩ :: _) _ _
               go_must (
                 refine wpList_map_start rfl 77 rfl _ (Below.refl _ _) ?_
                 intro mb w5 h5
                 have HF := Lib.hid h5
                 clear h5))
  have hw5 := HF.out.bel
  have HT0 := Lib.hid (HX4.out.below (HA4.out.trans (hw5.mono HA4.out.size)))
  have HB0 := Lib.hid (HB3.out.trans ((HA4.out.trans (hw5.mono HA4.out.size)).mono HB3.out.size))
  have HR0 := Lib.hid (row_on HR4.out hw5)
  have HM0 := Lib.hid HF.out.at_
  have hm0 : w3.heap.size < mb := by have := HF.out.low; simp at this; omega
  have hz0 : w.heap.size ≤ w3.heap.size := HB3.out.size
  clear hw5 HX4 HB3 HR4 HF HA4
  refine wp_loop_rounds 8 ?_
  rw [rounds_succ]
  obtain ⟨y0, y1, y2, y3⟩ := row4 HR0.out
  have hix : ∀ W : World, (Instr.index 78 (.agg #[.string ⟨#[118, 97, 114]⟩, .string ⟨#[110, 111, 110, 118, 97, 114]⟩, .string ⟨#[105, 110, 116, 101, 103, 101, 114]⟩, .string ⟨#[97, 116, 111, 109]⟩, .string ⟨#[97, 116, 111, 109, 105, 99]⟩, .string ⟨#[99, 111, 109, 112, 111, 117, 110, 100]⟩, .string ⟨#[99, 97, 108, 108, 97, 98, 108, 101]⟩]) (.int .i64 0)).run Try.prog W = .ok (.string ⟨#[118, 97, 114]⟩) W := fun W => by kernel_rfl
  go_wp2_with fail
  have hal := (Below.refl w5.heap.size w5).alloc (Nat.le_refl _) (.cells #[.int .i64 2, .int .i64 T.n, .string T.s, .slice b1 T.args.length k1] 49 (0, 0))
  have hrw : IsSl (w5.alloc (.cells #[.int .i64 2, .int .i64 T.n, .string T.s, .slice b1 T.args.length k1] 49 (0, 0))) AnyB (.slice (some ⟨w5.heap.size, 0, none⟩) 1 1) [T] := by
    have := row1 (x := T) (a := b1) (c := k1) (w := w5) (by rw [HK.out]; exact HT0.out.any)
    rw [HK.out] at this
    exact this
  have hdo := sh_Do_sort .k0 T AnyB _ _ _ hrw HSZ.out HC.out
  rw [HK.out] at hdo
  refine hdo.mono ?_
  rintro e u0 ⟨rfl, hbu⟩
  have hbx := hal.trans (hbu.mono hal.size)
  have hal2 := (Below.refl u0.heap.size u0).alloc (Nat.le_refl _) (.cells #[.bool false, .slice none 0 0, .slice none 0 0, .int .i64 0, .int .i64 0, .string ⟨#[]⟩, .slice none 0 0] 71 (0, 0))
  have hby := hbx.trans (hal2.mono hbx.size)
  have HRX := Lib.hid (row_on HR0.out hby)
  have HTX := Lib.hid (HT0.out.below hby)
  have HBX := Lib.hid (HB0.out.trans (hby.mono HB0.out.size))
  have HMX := Lib.hid (row_on HM0.out hby)
  have hzx := HB0.out.size
  show _
  clear y0 y1 y2 y3 hix hal hrw hdo hbu hbx hal2 hby HR0 HT0 HB0 HM0
  have hdb : (didB (false)) = .agg #[.bool false, .slice none 0 0, .slice none 0 0, .int .i64 0, .int .i64 0, .string ⟨#[]⟩, .slice none 0 0] := rfl
  simp only [didB]
  go_wp2_with (with_reducible show wpList _ _ _ (⟨none, .mapUpdate _ _ _ _, _, _, _, _⟩ :: _) _ _
               go_must (
                 refine wpList_mapUpdate_new rfl 77 (.tmp 44) (.tmp 45) (.tmp 47) rfl _ _ _ Try.underlying77 Try.underlying9 rfl mb #[] 0 rfl HMX.out (by kernel_rfl) ?_
                 intro wm1 hmu hgu
                 have HM1 := Lib.hid (show wm1.heap[mb]? = some (.map #[⟨.string ⟨#[118, 97, 114]⟩, .bool false, 0⟩] 1) from hmu)
                 have hlt4 := (Array.getElem?_eq_some_iff.1 HRX.out).1
                 have HR1 := Lib.hid ((hgu.block w3.heap.size hlt4 (fun e => by simp at e; omega)).trans HRX.out)
                 have HT1 := Lib.hid (HTX.out.imp (P' := fun b => b < w3.heap.size) (fun _ h => h) fun b hb hlt => hgu.block b hlt (fun e => by simp at e; omega))
                 have HB1 := Lib.hid (below_grown HBX.out hgu (by omega) HBX.out.size)
                 clear hmu hgu hlt4 HRX HTX HBX HMX))
  rw [rounds_succ]
  obtain ⟨y0, y1, y2, y3⟩ := row4 HR1.out
  have hix : ∀ W : World, (Instr.index 78 (.agg #[.string ⟨#[118, 97, 114]⟩, .string ⟨#[110, 111, 110, 118, 97, 114]⟩, .string ⟨#[105, 110, 116, 101, 103, 101, 114]⟩, .string ⟨#[97, 116, 111, 109]⟩, .string ⟨#[97, 116, 111, 109, 105, 99]⟩, .string ⟨#[99, 111, 109, 112, 111, 117, 110, 100]⟩, .string ⟨#[99, 97, 108, 108, 97, 98, 108, 101]⟩]) (.int .i64 1)).run Try.prog W = .ok (.string ⟨#[110, 111, 110, 118, 97, 114]⟩) W := fun W => by kernel_rfl
  go_wp2_with fail
  have hal := (Below.refl wm1.heap.size wm1).alloc (Nat.le_refl _) (.cells #[.int .i64 2, .int .i64 T.n, .string T.s, .slice b1 T.args.length k1] 49 (0, 0))
  have hrw : IsSl (wm1.alloc (.cells #[.int .i64 2, .int .i64 T.n, .string T.s, .slice b1 T.args.length k1] 49 (0, 0))) AnyB (.slice (some ⟨wm1.heap.size, 0, none⟩) 1 1) [T] := by
    have := row1 (x := T) (a := b1) (c := k1) (w := wm1) (by rw [HK.out]; exact HT1.out.any)
    rw [HK.out] at this
    exact this
  have hdo := sh_Do_sort .k1 T AnyB _ _ _ hrw HSZ.out HC.out
  rw [HK.out] at hdo
  refine hdo.mono ?_
  rintro e u1 ⟨rfl, hbu⟩
  have hbx := hal.trans (hbu.mono hal.size)
  have hal2 := (Below.refl u1.heap.size u1).alloc (Nat.le_refl _) (.cells #[.bool true, .slice none 0 0, .slice none 0 0, .int .i64 0, .int .i64 0, .string ⟨#[]⟩, .slice none 0 0] 71 (0, 0))
  have hby := hbx.trans (hal2.mono hbx.size)
  have HRX := Lib.hid (row_on HR1.out hby)
  have HTX := Lib.hid (HT1.out.below hby)
  have HBX := Lib.hid (HB1.out.trans (hby.mono HB1.out.size))
  have HMX := Lib.hid (row_on HM1.out hby)
  have hzx := HB1.out.size
  show _
  clear y0 y1 y2 y3 hix hal hrw hdo hbu hbx hal2 hby HR1 HT1 HB1 HM1
  have hdb : (didB (true)) = .agg #[.bool true, .slice none 0 0, .slice none 0 0, .int .i64 0, .int .i64 0, .string ⟨#[]⟩, .slice none 0 0] := rfl
  simp only [didB]
  go_wp2_with (with_reducible show wpList _ _ _ (⟨none, .mapUpdate _ _ _ _, _, _, _, _⟩ :: _) _ _
               go_must (
                 refine wpList_mapUpdate_new rfl 77 (.tmp 44) (.tmp 45) (.tmp 47) rfl _ _ _ Try.underlying77 Try.underlying9 rfl mb #[⟨.string ⟨#[118, 97, 114]⟩, .bool false, 0⟩] 1 rfl HMX.out (by kernel_rfl) ?_
                 intro wm2 hmu hgu
                 have HM2 := Lib.hid (show wm2.heap[mb]? = some (.map #[⟨.string ⟨#[118, 97, 114]⟩, .bool false, 0⟩, ⟨.string ⟨#[110, 111, 110, 118, 97, 114]⟩, .bool true, 1⟩] 2) from hmu)
                 have hlt4 := (Array.getElem?_eq_some_iff.1 HRX.out).1
                 have HR2 := Lib.hid ((hgu.block w3.heap.size hlt4 (fun e => by simp at e; omega)).trans HRX.out)
                 have HT2 := Lib.hid (HTX.out.imp (P' := fun b => b < w3.heap.size) (fun _ h => h) fun b hb hlt => hgu.block b hlt (fun e => by simp at e; omega))
                 have HB2 := Lib.hid (below_grown HBX.out hgu (by omega) HBX.out.size)
                 clear hmu hgu hlt4 HRX HTX HBX HMX))
  rw [rounds_succ]
  obtain ⟨y0, y1, y2, y3⟩ := row4 HR2.out
  have hix : ∀ W : World, (Instr.index 78 (.agg #[.string ⟨#[118, 97, 114]⟩, .string ⟨#[110, 111, 110, 118, 97, 114]⟩, .string ⟨#[105, 110, 116, 101, 103, 101, 114]⟩, .string ⟨#[97, 116, 111, 109]⟩, .string ⟨#[97, 116, 111, 109, 105, 99]⟩, .string ⟨#[99, 111, 109, 112, 111, 117, 110, 100]⟩, .string ⟨#[99, 97, 108, 108, 97, 98, 108, 101]⟩]) (.int .i64 2)).run Try.prog W = .ok (.string ⟨#[105, 110, 116, 101, 103, 101, 114]⟩) W := fun W => by kernel_rfl
  go_wp2_with fail
  have hal := (Below.refl wm2.heap.size wm2).alloc (Nat.le_refl _) (.cells #[.int .i64 2, .int .i64 T.n, .string T.s, .slice b1 T.args.length k1] 49 (0, 0))
  have hrw : IsSl (wm2.alloc (.cells #[.int .i64 2, .int .i64 T.n, .string T.s, .slice b1 T.args.length k1] 49 (0, 0))) AnyB (.slice (some ⟨wm2.heap.size, 0, none⟩) 1 1) [T] := by
    have := row1 (x := T) (a := b1) (c := k1) (w := wm2) (by rw [HK.out]; exact HT2.out.any)
    rw [HK.out] at this
    exact this
  have hdo := sh_Do_sort .k3 T AnyB _ _ _ hrw HSZ.out HC.out
  rw [HK.out] at hdo
  refine hdo.mono ?_
  rintro e u2 ⟨rfl, hbu⟩
  have hbx := hal.trans (hbu.mono hal.size)
  have hal2 := (Below.refl u2.heap.size u2).alloc (Nat.le_refl _) (.cells #[.bool true, .slice none 0 0, .slice none 0 0, .int .i64 0, .int .i64 0, .string ⟨#[]⟩, .slice none 0 0] 71 (0, 0))
  have hby := hbx.trans (hal2.mono hbx.size)
  have HRX := Lib.hid (row_on HR2.out hby)
  have HTX := Lib.hid (HT2.out.below hby)
  have HBX := Lib.hid (HB2.out.trans (hby.mono HB2.out.size))
  have HMX := Lib.hid (row_on HM2.out hby)
  have hzx := HB2.out.size
  show _
  clear y0 y1 y2 y3 hix hal hrw hdo hbu hbx hal2 hby HR2 HT2 HB2 HM2
  have hdb : (didB (true)) = .agg #[.bool true, .slice none 0 0, .slice none 0 0, .int .i64 0, .int .i64 0, .string ⟨#[]⟩, .slice none 0 0] := rfl
  simp only [didB]
  go_wp2_with (with_reducible show wpList _ _ _ (⟨none, .mapUpdate _ _ _ _, _, _, _, _⟩ :: _) _ _
               go_must (
                 refine wpList_mapUpdate_new rfl 77 (.tmp 44) (.tmp 45) (.tmp 47) rfl _ _ _ Try.underlying77 Try.underlying9 rfl mb #[⟨.string ⟨#[118, 97, 114]⟩, .bool false, 0⟩, ⟨.string ⟨#[110, 111, 110, 118, 97, 114]⟩, .bool true, 1⟩] 2 rfl HMX.out (by kernel_rfl) ?_
                 intro wm3 hmu hgu
                 have HM3 := Lib.hid (show wm3.heap[mb]? = some (.map #[⟨.string ⟨#[118, 97, 114]⟩, .bool false, 0⟩, ⟨.string ⟨#[110, 111, 110, 118, 97, 114]⟩, .bool true, 1⟩, ⟨.string ⟨#[105, 110, 116, 101, 103, 101, 114]⟩, .bool true, 2⟩] 3) from hmu)
                 have hlt4 := (Array.getElem?_eq_some_iff.1 HRX.out).1
                 have HR3 := Lib.hid ((hgu.block w3.heap.size hlt4 (fun e => by simp at e; omega)).trans HRX.out)
                 have HT3 := Lib.hid (HTX.out.imp (P' := fun b => b < w3.heap.size) (fun _ h => h) fun b hb hlt => hgu.block b hlt (fun e => by simp at e; omega))
                 have HB3 := Lib.hid (below_grown HBX.out hgu (by omega) HBX.out.size)
                 clear hmu hgu hlt4 HRX HTX HBX HMX))
  rw [rounds_succ]
  obtain ⟨y0, y1, y2, y3⟩ := row4 HR3.out
  have hix : ∀ W : World, (Instr.index 78 (.agg #[.string ⟨#[118, 97, 114]⟩, .string ⟨#[110, 111, 110, 118, 97, 114]⟩, .string ⟨#[105, 110, 116, 101, 103, 101, 114]⟩, .string ⟨#[97, 116, 111, 109]⟩, .string ⟨#[97, 116, 111, 109, 105, 99]⟩, .string ⟨#[99, 111, 109, 112, 111, 117, 110, 100]⟩, .string ⟨#[99, 97, 108, 108, 97, 98, 108, 101]⟩]) (.int .i64 3)).run Try.prog W = .ok (.string ⟨#[97, 116, 111, 109]⟩) W := fun W => by kernel_rfl
  go_wp2_with fail
  have hal := (Below.refl wm3.heap.size wm3).alloc (Nat.le_refl _) (.cells #[.int .i64 2, .int .i64 T.n, .string T.s, .slice b1 T.args.length k1] 49 (0, 0))
  have hrw : IsSl (wm3.alloc (.cells #[.int .i64 2, .int .i64 T.n, .string T.s, .slice b1 T.args.length k1] 49 (0, 0))) AnyB (.slice (some ⟨wm3.heap.size, 0, none⟩) 1 1) [T] := by
    have := row1 (x := T) (a := b1) (c := k1) (w := wm3) (by rw [HK.out]; exact HT3.out.any)
    rw [HK.out] at this
    exact this
  have hdo := sh_Do_sort .k2 T AnyB _ _ _ hrw HSZ.out HC.out
  rw [HK.out] at hdo
  refine hdo.mono ?_
  rintro e u3 ⟨rfl, hbu⟩
  have hbx := hal.trans (hbu.mono hal.size)
  have hal2 := (Below.refl u3.heap.size u3).alloc (Nat.le_refl _) (.cells #[.bool false, .slice none 0 0, .slice none 0 0, .int .i64 0, .int .i64 0, .string ⟨#[]⟩, .slice none 0 0] 71 (0, 0))
  have hby := hbx.trans (hal2.mono hbx.size)
  have HRX := Lib.hid (row_on HR3.out hby)
  have HTX := Lib.hid (HT3.out.below hby)
  have HBX := Lib.hid (HB3.out.trans (hby.mono HB3.out.size))
  have HMX := Lib.hid (row_on HM3.out hby)
  have hzx := HB3.out.size
  show _
  clear y0 y1 y2 y3 hix hal hrw hdo hbu hbx hal2 hby HR3 HT3 HB3 HM3
  have hdb : (didB (false)) = .agg #[.bool false, .slice none 0 0, .slice none 0 0, .int .i64 0, .int .i64 0, .string ⟨#[]⟩, .slice none 0 0] := rfl
  simp only [didB]
  go_wp2_with (with_reducible show wpList _ _ _ (⟨none, .mapUpdate _ _ _ _, _, _, _, _⟩ :: _) _ _
               go_must (
                 refine wpList_mapUpdate_new rfl 77 (.tmp 44) (.tmp 45) (.tmp 47) rfl _ _ _ Try.underlying77 Try.underlying9 rfl mb #[⟨.string ⟨#[118, 97, 114]⟩, .bool false, 0⟩, ⟨.string ⟨#[110, 111, 110, 118, 97, 114]⟩, .bool true, 1⟩, ⟨.string ⟨#[105, 110, 116, 101, 103, 101, 114]⟩, .bool true, 2⟩] 3 rfl HMX.out (by kernel_rfl) ?_
                 intro wm4 hmu hgu
                 have HM4 := Lib.hid (show wm4.heap[mb]? = some (.map #[⟨.string ⟨#[118, 97, 114]⟩, .bool false, 0⟩, ⟨.string ⟨#[110, 111, 110, 118, 97, 114]⟩, .bool true, 1⟩, ⟨.string ⟨#[105, 110, 116, 101, 103, 101, 114]⟩, .bool true, 2⟩, ⟨.string ⟨#[97, 116, 111, 109]⟩, .bool false, 3⟩] 4) from hmu)
                 have hlt4 := (Array.getElem?_eq_some_iff.1 HRX.out).1
                 have HR4 := Lib.hid ((hgu.block w3.heap.size hlt4 (fun e => by simp at e; omega)).trans HRX.out)
                 have HT4 := Lib.hid (HTX.out.imp (P' := fun b => b < w3.heap.size) (fun _ h => h) fun b hb hlt => hgu.block b hlt (fun e => by simp at e; omega))
                 have HB4 := Lib.hid (below_grown HBX.out hgu (by omega) HBX.out.size)
                 clear hmu hgu hlt4 HRX HTX HBX HMX))
  rw [rounds_succ]
  obtain ⟨y0, y1, y2, y3⟩ := row4 HR4.out
  have hix : ∀ W : World, (Instr.index 78 (.agg #[.string ⟨#[118, 97, 114]⟩, .string ⟨#[110, 111, 110, 118, 97, 114]⟩, .string ⟨#[105, 110, 116, 101, 103, 101, 114]⟩, .string ⟨#[97, 116, 111, 109]⟩, .string ⟨#[97, 116, 111, 109, 105, 99]⟩, .string ⟨#[99, 111, 109, 112, 111, 117, 110, 100]⟩, .string ⟨#[99, 97, 108, 108, 97, 98, 108, 101]⟩]) (.int .i64 4)).run Try.prog W = .ok (.string ⟨#[97, 116, 111, 109, 105, 99]⟩) W := fun W => by kernel_rfl
  go_wp2_with fail
  have hal := (Below.refl wm4.heap.size wm4).alloc (Nat.le_refl _) (.cells #[.int .i64 2, .int .i64 T.n, .string T.s, .slice b1 T.args.length k1] 49 (0, 0))
  have hrw : IsSl (wm4.alloc (.cells #[.int .i64 2, .int .i64 T.n, .string T.s, .slice b1 T.args.length k1] 49 (0, 0))) AnyB (.slice (some ⟨wm4.heap.size, 0, none⟩) 1 1) [T] := by
    have := row1 (x := T) (a := b1) (c := k1) (w := wm4) (by rw [HK.out]; exact HT4.out.any)
    rw [HK.out] at this
    exact this
  have hdo := sh_Do_sort .k4 T AnyB _ _ _ hrw HSZ.out HC.out
  rw [HK.out] at hdo
  refine hdo.mono ?_
  rintro e u4 ⟨rfl, hbu⟩
  have hbx := hal.trans (hbu.mono hal.size)
  have hal2 := (Below.refl u4.heap.size u4).alloc (Nat.le_refl _) (.cells #[.bool true, .slice none 0 0, .slice none 0 0, .int .i64 0, .int .i64 0, .string ⟨#[]⟩, .slice none 0 0] 71 (0, 0))
  have hby := hbx.trans (hal2.mono hbx.size)
  have HRX := Lib.hid (row_on HR4.out hby)
  have HTX := Lib.hid (HT4.out.below hby)
  have HBX := Lib.hid (HB4.out.trans (hby.mono HB4.out.size))
  have HMX := Lib.hid (row_on HM4.out hby)
  have hzx := HB4.out.size
  show _
  clear y0 y1 y2 y3 hix hal hrw hdo hbu hbx hal2 hby HR4 HT4 HB4 HM4
  have hdb : (didB (true)) = .agg #[.bool true, .slice none 0 0, .slice none 0 0, .int .i64 0, .int .i64 0, .string ⟨#[]⟩, .slice none 0 0] := rfl
  simp only [didB]
  go_wp2_with (with_reducible show wpList _ _ _ (⟨none, .mapUpdate _ _ _ _, _, _, _, _⟩ :: _) _ _
               go_must (
                 refine wpList_mapUpdate_new rfl 77 (.tmp 44) (.tmp 45) (.tmp 47) rfl _ _ _ Try.underlying77 Try.underlying9 rfl mb #[⟨.string ⟨#[118, 97, 114]⟩, .bool false, 0⟩, ⟨.string ⟨#[110, 111, 110, 118, 97, 114]⟩, .bool true, 1⟩, ⟨.string ⟨#[105, 110, 116, 101, 103, 101, 114]⟩, .bool true, 2⟩, ⟨.string ⟨#[97, 116, 111, 109]⟩, .bool false, 3⟩] 4 rfl HMX.out (by kernel_rfl) ?_
                 intro wm5 hmu hgu
                 have HM5 := Lib.hid (show wm5.heap[mb]? = some (.map #[⟨.string ⟨#[118, 97, 114]⟩, .bool false, 0⟩, ⟨.string ⟨#[110, 111, 110, 118, 97, 114]⟩, .bool true, 1⟩, ⟨.string ⟨#[105, 110, 116, 101, 103, 101, 114]⟩, .bool true, 2⟩, ⟨.string ⟨#[97, 116, 111, 109]⟩, .bool false, 3⟩, ⟨.string ⟨#[97, 116, 111, 109, 105, 99]⟩, .bool true, 4⟩] 5) from hmu)
                 have hlt4 := (Array.getElem?_eq_some_iff.1 HRX.out).1
                 have HR5 := Lib.hid ((hgu.block w3.heap.size hlt4 (fun e => by simp at e; omega)).trans HRX.out)
                 have HT5 := Lib.hid (HTX.out.imp (P' := fun b => b < w3.heap.size) (fun _ h => h) fun b hb hlt => hgu.block b hlt (fun e => by simp at e; omega))
                 have HB5 := Lib.hid (below_grown HBX.out hgu (by omega) HBX.out.size)
                 clear hmu hgu hlt4 HRX HTX HBX HMX))
  rw [rounds_succ]
  obtain ⟨y0, y1, y2, y3⟩ := row4 HR5.out
  have hix : ∀ W : World, (Instr.index 78 (.agg #[.string ⟨#[118, 97, 114]⟩, .string ⟨#[110, 111, 110, 118, 97, 114]⟩, .string ⟨#[105, 110, 116, 101, 103, 101, 114]⟩, .string ⟨#[97, 116, 111, 109]⟩, .string ⟨#[97, 116, 111, 109, 105, 99]⟩, .string ⟨#[99, 111, 109, 112, 111, 117, 110, 100]⟩, .string ⟨#[99, 97, 108, 108, 97, 98, 108, 101]⟩]) (.int .i64 5)).run Try.prog W = .ok (.string ⟨#[99, 111, 109, 112, 111, 117, 110, 100]⟩) W := fun W => by kernel_rfl
  go_wp2_with fail
  have hal := (Below.refl wm5.heap.size wm5).alloc (Nat.le_refl _) (.cells #[.int .i64 2, .int .i64 T.n, .string T.s, .slice b1 T.args.length k1] 49 (0, 0))
  have hrw : IsSl (wm5.alloc (.cells #[.int .i64 2, .int .i64 T.n, .string T.s, .slice b1 T.args.length k1] 49 (0, 0))) AnyB (.slice (some ⟨wm5.heap.size, 0, none⟩) 1 1) [T] := by
    have := row1 (x := T) (a := b1) (c := k1) (w := wm5) (by rw [HK.out]; exact HT5.out.any)
    rw [HK.out] at this
    exact this
  have hdo := sh_Do_sort .k5 T AnyB _ _ _ hrw HSZ.out HC.out
  rw [HK.out] at hdo
  refine hdo.mono ?_
  rintro e u5 ⟨rfl, hbu⟩
  have hbx := hal.trans (hbu.mono hal.size)
  have hal2 := (Below.refl u5.heap.size u5).alloc (Nat.le_refl _) (.cells #[.bool false, .slice none 0 0, .slice none 0 0, .int .i64 0, .int .i64 0, .string ⟨#[]⟩, .slice none 0 0] 71 (0, 0))
  have hby := hbx.trans (hal2.mono hbx.size)
  have HRX := Lib.hid (row_on HR5.out hby)
  have HTX := Lib.hid (HT5.out.below hby)
  have HBX := Lib.hid (HB5.out.trans (hby.mono HB5.out.size))
  have HMX := Lib.hid (row_on HM5.out hby)
  have hzx := HB5.out.size
  show _
  clear y0 y1 y2 y3 hix hal hrw hdo hbu hbx hal2 hby HR5 HT5 HB5 HM5
  have hdb : (didB (false)) = .agg #[.bool false, .slice none 0 0, .slice none 0 0, .int .i64 0, .int .i64 0, .string ⟨#[]⟩, .slice none 0 0] := rfl
  simp only [didB]
  go_wp2_with (with_reducible show wpList _ _ _ (⟨none, .mapUpdate _ _ _ _, _, _, _, _⟩ :: _) _ _
               go_must (
                 refine wpList_mapUpdate_new rfl 77 (.tmp 44) (.tmp 45) (.tmp 47) rfl _ _ _ Try.underlying77 Try.underlying9 rfl mb #[⟨.string ⟨#[118, 97, 114]⟩, .bool false, 0⟩, ⟨.string ⟨#[110, 111, 110, 118, 97, 114]⟩, .bool true, 1⟩, ⟨.string ⟨#[105, 110, 116, 101, 103, 101, 114]⟩, .bool true, 2⟩, ⟨.string ⟨#[97, 116, 111, 109]⟩, .bool false, 3⟩, ⟨.string ⟨#[97, 116, 111, 109, 105, 99]⟩, .bool true, 4⟩] 5 rfl HMX.out (by kernel_rfl) ?_
                 intro wm6 hmu hgu
                 have HM6 := Lib.hid (show wm6.heap[mb]? = some (.map #[⟨.string ⟨#[118, 97, 114]⟩, .bool false, 0⟩, ⟨.string ⟨#[110, 111, 110, 118, 97, 114]⟩, .bool true, 1⟩, ⟨.string ⟨#[105, 110, 116, 101, 103, 101, 114]⟩, .bool true, 2⟩, ⟨.string ⟨#[97, 116, 111, 109]⟩, .bool false, 3⟩, ⟨.string ⟨#[97, 116, 111, 109, 105, 99]⟩, .bool true, 4⟩, ⟨.string ⟨#[99, 111, 109, 112, 111, 117, 110, 100]⟩, .bool false, 5⟩] 6) from hmu)
                 have hlt4 := (Array.getElem?_eq_some_iff.1 HRX.out).1
                 have HR6 := Lib.hid ((hgu.block w3.heap.size hlt4 (fun e => by simp at e; omega)).trans HRX.out)
                 have HT6 := Lib.hid (HTX.out.imp (P' := fun b => b < w3.heap.size) (fun _ h => h) fun b hb hlt => hgu.block b hlt (fun e => by simp at e; omega))
                 have HB6 := Lib.hid (below_grown HBX.out hgu (by omega) HBX.out.size)
                 clear hmu hgu hlt4 HRX HTX HBX HMX))
  rw [rounds_succ]
  obtain ⟨y0, y1, y2, y3⟩ := row4 HR6.out
  have hix : ∀ W : World, (Instr.index 78 (.agg #[.string ⟨#[118, 97, 114]⟩, .string ⟨#[110, 111, 110, 118, 97, 114]⟩, .string ⟨#[105, 110, 116, 101, 103, 101, 114]⟩, .string ⟨#[97, 116, 111, 109]⟩, .string ⟨#[97, 116, 111, 109, 105, 99]⟩, .string ⟨#[99, 111, 109, 112, 111, 117, 110, 100]⟩, .string ⟨#[99, 97, 108, 108, 97, 98, 108, 101]⟩]) (.int .i64 6)).run Try.prog W = .ok (.string ⟨#[99, 97, 108, 108, 97, 98, 108, 101]⟩) W := fun W => by kernel_rfl
  go_wp2_with fail
  have hal := (Below.refl wm6.heap.size wm6).alloc (Nat.le_refl _) (.cells #[.int .i64 2, .int .i64 T.n, .string T.s, .slice b1 T.args.length k1] 49 (0, 0))
  have hrw : IsSl (wm6.alloc (.cells #[.int .i64 2, .int .i64 T.n, .string T.s, .slice b1 T.args.length k1] 49 (0, 0))) AnyB (.slice (some ⟨wm6.heap.size, 0, none⟩) 1 1) [T] := by
    have := row1 (x := T) (a := b1) (c := k1) (w := wm6) (by rw [HK.out]; exact HT6.out.any)
    rw [HK.out] at this
    exact this
  have hdo := sh_Do_sort .k6 T AnyB _ _ _ hrw HSZ.out HC.out
  rw [HK.out] at hdo
  refine hdo.mono ?_
  rintro e u6 ⟨rfl, hbu⟩
  have hbx := hal.trans (hbu.mono hal.size)
  have hal2 := (Below.refl u6.heap.size u6).alloc (Nat.le_refl _) (.cells #[.bool false, .slice none 0 0, .slice none 0 0, .int .i64 0, .int .i64 0, .string ⟨#[]⟩, .slice none 0 0] 71 (0, 0))
  have hby := hbx.trans (hal2.mono hbx.size)
  have HRX := Lib.hid (row_on HR6.out hby)
  have HTX := Lib.hid (HT6.out.below hby)
  have HBX := Lib.hid (HB6.out.trans (hby.mono HB6.out.size))
  have HMX := Lib.hid (row_on HM6.out hby)
  have hzx := HB6.out.size
  show _
  clear y0 y1 y2 y3 hix hal hrw hdo hbu hbx hal2 hby HR6 HT6 HB6 HM6
  have hdb : (didB (false)) = .agg #[.bool false, .slice none 0 0, .slice none 0 0, .int .i64 0, .int .i64 0, .string ⟨#[]⟩, .slice none 0 0] := rfl
  simp only [didB]
  go_wp2_with (with_reducible show wpList _ _ _ (⟨none, .mapUpdate _ _ _ _, _, _, _, _⟩ :: _) _ _
               go_must (
                 refine wpList_mapUpdate_new rfl 77 (.tmp 44) (.tmp 45) (.tmp 47) rfl _ _ _ Try.underlying77 Try.underlying9 rfl mb #[⟨.string ⟨#[118, 97, 114]⟩, .bool false, 0⟩, ⟨.string ⟨#[110, 111, 110, 118, 97, 114]⟩, .bool true, 1⟩, ⟨.string ⟨#[105, 110, 116, 101, 103, 101, 114]⟩, .bool true, 2⟩, ⟨.string ⟨#[97, 116, 111, 109]⟩, .bool false, 3⟩, ⟨.string ⟨#[97, 116, 111, 109, 105, 99]⟩, .bool true, 4⟩, ⟨.string ⟨#[99, 111, 109, 112, 111, 117, 110, 100]⟩, .bool false, 5⟩] 6 rfl HMX.out (by kernel_rfl) ?_
                 intro wm7 hmu hgu
                 have HM7 := Lib.hid (show wm7.heap[mb]? = some (.map #[⟨.string ⟨#[118, 97, 114]⟩, .bool false, 0⟩, ⟨.string ⟨#[110, 111, 110, 118, 97, 114]⟩, .bool true, 1⟩, ⟨.string ⟨#[105, 110, 116, 101, 103, 101, 114]⟩, .bool true, 2⟩, ⟨.string ⟨#[97, 116, 111, 109]⟩, .bool false, 3⟩, ⟨.string ⟨#[97, 116, 111, 109, 105, 99]⟩, .bool true, 4⟩, ⟨.string ⟨#[99, 111, 109, 112, 111, 117, 110, 100]⟩, .bool false, 5⟩, ⟨.string ⟨#[99, 97, 108, 108, 97, 98, 108, 101]⟩, .bool false, 6⟩] 7) from hmu)
                 have hlt4 := (Array.getElem?_eq_some_iff.1 HRX.out).1
                 have HR7 := Lib.hid ((hgu.block w3.heap.size hlt4 (fun e => by simp at e; omega)).trans HRX.out)
                 have HT7 := Lib.hid (HTX.out.imp (P' := fun b => b < w3.heap.size) (fun _ h => h) fun b hb hlt => hgu.block b hlt (fun e => by simp at e; omega))
                 have HB7 := Lib.hid (below_grown HBX.out hgu (by omega) HBX.out.size)
                 clear hmu hgu hlt4 HRX HTX HBX HMX))
  rw [rounds_succ]
  go_wp2
  refine wp_loop_rounds 5 ?_
  rw [rounds_succ]
  have hix : ∀ W : World, (Instr.index 79 (.agg #[.string ⟨#[118, 97, 114]⟩, .string ⟨#[105, 110, 116, 101, 103, 101, 114]⟩, .string ⟨#[97, 116, 111, 109]⟩, .string ⟨#[99, 111, 109, 112, 111, 117, 110, 100]⟩]) (.int .i64 0)).run Try.prog W = .ok (.string ⟨#[118, 97, 114]⟩) W := fun W => by kernel_rfl
  go_wp2_with (with_reducible show wpList _ _ _ (⟨some 55, _, _, _, _, _⟩ :: _) _ _
               go_must (
                 refine wpList_lookup_val rfl 77 (.tmp 53) (.tmp 54) rfl _ _ _ Try.underlying77 Try.underlying9 rfl mb #[⟨.string ⟨#[118, 97, 114]⟩, .bool false, 0⟩, ⟨.string ⟨#[110, 111, 110, 118, 97, 114]⟩, .bool true, 1⟩, ⟨.string ⟨#[105, 110, 116, 101, 103, 101, 114]⟩, .bool true, 2⟩, ⟨.string ⟨#[97, 116, 111, 109]⟩, .bool false, 3⟩, ⟨.string ⟨#[97, 116, 111, 109, 105, 99]⟩, .bool true, 4⟩, ⟨.string ⟨#[99, 111, 109, 112, 111, 117, 110, 100]⟩, .bool false, 5⟩, ⟨.string ⟨#[99, 97, 108, 108, 97, 98, 108, 101]⟩, .bool false, 6⟩] 7 rfl HM7.out (0, .bool false) (by kernel_rfl) ?_))
  clear hix
  rw [rounds_succ]
  have hix : ∀ W : World, (Instr.index 79 (.agg #[.string ⟨#[118, 97, 114]⟩, .string ⟨#[105, 110, 116, 101, 103, 101, 114]⟩, .string ⟨#[97, 116, 111, 109]⟩, .string ⟨#[99, 111, 109, 112, 111, 117, 110, 100]⟩]) (.int .i64 1)).run Try.prog W = .ok (.string ⟨#[105, 110, 116, 101, 103, 101, 114]⟩) W := fun W => by kernel_rfl
  go_wp2_with (with_reducible show wpList _ _ _ (⟨some 55, _, _, _, _, _⟩ :: _) _ _
               go_must (
                 refine wpList_lookup_val rfl 77 (.tmp 53) (.tmp 54) rfl _ _ _ Try.underlying77 Try.underlying9 rfl mb #[⟨.string ⟨#[118, 97, 114]⟩, .bool false, 0⟩, ⟨.string ⟨#[110, 111, 110, 118, 97, 114]⟩, .bool true, 1⟩, ⟨.string ⟨#[105, 110, 116, 101, 103, 101, 114]⟩, .bool true, 2⟩, ⟨.string ⟨#[97, 116, 111, 109]⟩, .bool false, 3⟩, ⟨.string ⟨#[97, 116, 111, 109, 105, 99]⟩, .bool true, 4⟩, ⟨.string ⟨#[99, 111, 109, 112, 111, 117, 110, 100]⟩, .bool false, 5⟩, ⟨.string ⟨#[99, 97, 108, 108, 97, 98, 108, 101]⟩, .bool false, 6⟩] 7 rfl HM7.out (2, .bool true) (by kernel_rfl) ?_))
  clear hix
  rw [rounds_succ]
  have hix : ∀ W : World, (Instr.index 79 (.agg #[.string ⟨#[118, 97, 114]⟩, .string ⟨#[105, 110, 116, 101, 103, 101, 114]⟩, .string ⟨#[97, 116, 111, 109]⟩, .string ⟨#[99, 111, 109, 112, 111, 117, 110, 100]⟩]) (.int .i64 2)).run Try.prog W = .ok (.string ⟨#[97, 116, 111, 109]⟩) W := fun W => by kernel_rfl
  go_wp2_with (with_reducible show wpList _ _ _ (⟨some 55, _, _, _, _, _⟩ :: _) _ _
               go_must (
                 refine wpList_lookup_val rfl 77 (.tmp 53) (.tmp 54) rfl _ _ _ Try.underlying77 Try.underlying9 rfl mb #[⟨.string ⟨#[118, 97, 114]⟩, .bool false, 0⟩, ⟨.string ⟨#[110, 111, 110, 118, 97, 114]⟩, .bool true, 1⟩, ⟨.string ⟨#[105, 110, 116, 101, 103, 101, 114]⟩, .bool true, 2⟩, ⟨.string ⟨#[97, 116, 111, 109]⟩, .bool false, 3⟩, ⟨.string ⟨#[97, 116, 111, 109, 105, 99]⟩, .bool true, 4⟩, ⟨.string ⟨#[99, 111, 109, 112, 111, 117, 110, 100]⟩, .bool false, 5⟩, ⟨.string ⟨#[99, 97, 108, 108, 97, 98, 108, 101]⟩, .bool false, 6⟩] 7 rfl HM7.out (3, .bool false) (by kernel_rfl) ?_))
  clear hix
  rw [rounds_succ]
  have hix : ∀ W : World, (Instr.index 79 (.agg #[.string ⟨#[118, 97, 114]⟩, .string ⟨#[105, 110, 116, 101, 103, 101, 114]⟩, .string ⟨#[97, 116, 111, 109]⟩, .string ⟨#[99, 111, 109, 112, 111, 117, 110, 100]⟩]) (.int .i64 3)).run Try.prog W = .ok (.string ⟨#[99, 111, 109, 112, 111, 117, 110, 100]⟩) W := fun W => by kernel_rfl
  go_wp2_with (with_reducible show wpList _ _ _ (⟨some 55, _, _, _, _, _⟩ :: _) _ _
               go_must (
                 refine wpList_lookup_val rfl 77 (.tmp 53) (.tmp 54) rfl _ _ _ Try.underlying77 Try.underlying9 rfl mb #[⟨.string ⟨#[118, 97, 114]⟩, .bool false, 0⟩, ⟨.string ⟨#[110, 111, 110, 118, 97, 114]⟩, .bool true, 1⟩, ⟨.string ⟨#[105, 110, 116, 101, 103, 101, 114]⟩, .bool true, 2⟩, ⟨.string ⟨#[97, 116, 111, 109]⟩, .bool false, 3⟩, ⟨.string ⟨#[97, 116, 111, 109, 105, 99]⟩, .bool true, 4⟩, ⟨.string ⟨#[99, 111, 109, 112, 111, 117, 110, 100]⟩, .bool false, 5⟩, ⟨.string ⟨#[99, 97, 108, 108, 97, 98, 108, 101]⟩, .bool false, 6⟩] 7 rfl HM7.out (5, .bool false) (by kernel_rfl) ?_))
  clear hix
  rw [rounds_succ]
  go_wp2_with (first
    | (with_reducible show wpList _ _ _ (⟨some 63, _, _, _, _, _⟩ :: _) _ _
       refine wpList_lookup_valG (by rfl) 77 (.tmp 62) (.const (.string ⟨#[110, 111, 110, 118, 97, 114]⟩)) rfl _ _ _ Try.underlying77 Try.underlying9 rfl mb #[⟨.string ⟨#[118, 97, 114]⟩, .bool false, 0⟩, ⟨.string ⟨#[110, 111, 110, 118, 97, 114]⟩, .bool true, 1⟩, ⟨.string ⟨#[105, 110, 116, 101, 103, 101, 114]⟩, .bool true, 2⟩, ⟨.string ⟨#[97, 116, 111, 109]⟩, .bool false, 3⟩, ⟨.string ⟨#[97, 116, 111, 109, 105, 99]⟩, .bool true, 4⟩, ⟨.string ⟨#[99, 111, 109, 112, 111, 117, 110, 100]⟩, .bool false, 5⟩, ⟨.string ⟨#[99, 97, 108, 108, 97, 98, 108, 101]⟩, .bool false, 6⟩] 7 rfl HM7.out (1, .bool true) (by kernel_rfl) ?_)
    | (with_reducible show wpList _ _ _ (⟨some 65, _, _, _, _, _⟩ :: _) _ _
       refine wpList_lookup_valG (by rfl) 77 (.tmp 64) (.const (.string ⟨#[118, 97, 114]⟩)) rfl _ _ _ Try.underlying77 Try.underlying9 rfl mb #[⟨.string ⟨#[118, 97, 114]⟩, .bool false, 0⟩, ⟨.string ⟨#[110, 111, 110, 118, 97, 114]⟩, .bool true, 1⟩, ⟨.string ⟨#[105, 110, 116, 101, 103, 101, 114]⟩, .bool true, 2⟩, ⟨.string ⟨#[97, 116, 111, 109]⟩, .bool false, 3⟩, ⟨.string ⟨#[97, 116, 111, 109, 105, 99]⟩, .bool true, 4⟩, ⟨.string ⟨#[99, 111, 109, 112, 111, 117, 110, 100]⟩, .bool false, 5⟩, ⟨.string ⟨#[99, 97, 108, 108, 97, 98, 108, 101]⟩, .bool false, 6⟩] 7 rfl HM7.out (0, .bool false) (by kernel_rfl) ?_)
    | (with_reducible show wpList _ _ _ (⟨some 70, _, _, _, _, _⟩ :: _) _ _
       refine wpList_lookup_valG (by rfl) 77 (.tmp 69) (.const (.string ⟨#[97, 116, 111, 109, 105, 99]⟩)) rfl _ _ _ Try.underlying77 Try.underlying9 rfl mb #[⟨.string ⟨#[118, 97, 114]⟩, .bool false, 0⟩, ⟨.string ⟨#[110, 111, 110, 118, 97, 114]⟩, .bool true, 1⟩, ⟨.string ⟨#[105, 110, 116, 101, 103, 101, 114]⟩, .bool true, 2⟩, ⟨.string ⟨#[97, 116, 111, 109]⟩, .bool false, 3⟩, ⟨.string ⟨#[97, 116, 111, 109, 105, 99]⟩, .bool true, 4⟩, ⟨.string ⟨#[99, 111, 109, 112, 111, 117, 110, 100]⟩, .bool false, 5⟩, ⟨.string ⟨#[99, 97, 108, 108, 97, 98, 108, 101]⟩, .bool false, 6⟩] 7 rfl HM7.out (4, .bool true) (by kernel_rfl) ?_)
    | (with_reducible show wpList _ _ _ (⟨some 72, _, _, _, _, _⟩ :: _) _ _
       refine wpList_lookup_valG (by rfl) 77 (.tmp 71) (.const (.string ⟨#[105, 110, 116, 101, 103, 101, 114]⟩)) rfl _ _ _ Try.underlying77 Try.underlying9 rfl mb #[⟨.string ⟨#[118, 97, 114]⟩, .bool false, 0⟩, ⟨.string ⟨#[110, 111, 110, 118, 97, 114]⟩, .bool true, 1⟩, ⟨.string ⟨#[105, 110, 116, 101, 103, 101, 114]⟩, .bool true, 2⟩, ⟨.string ⟨#[97, 116, 111, 109]⟩, .bool false, 3⟩, ⟨.string ⟨#[97, 116, 111, 109, 105, 99]⟩, .bool true, 4⟩, ⟨.string ⟨#[99, 111, 109, 112, 111, 117, 110, 100]⟩, .bool false, 5⟩, ⟨.string ⟨#[99, 97, 108, 108, 97, 98, 108, 101]⟩, .bool false, 6⟩] 7 rfl HM7.out (2, .bool true) (by kernel_rfl) ?_)
    | (with_reducible show wpList _ _ _ (⟨some 75, _, _, _, _, _⟩ :: _) _ _
       refine wpList_lookup_valG (by rfl) 77 (.tmp 74) (.const (.string ⟨#[97, 116, 111, 109]⟩)) rfl _ _ _ Try.underlying77 Try.underlying9 rfl mb #[⟨.string ⟨#[118, 97, 114]⟩, .bool false, 0⟩, ⟨.string ⟨#[110, 111, 110, 118, 97, 114]⟩, .bool true, 1⟩, ⟨.string ⟨#[105, 110, 116, 101, 103, 101, 114]⟩, .bool true, 2⟩, ⟨.string ⟨#[97, 116, 111, 109]⟩, .bool false, 3⟩, ⟨.string ⟨#[97, 116, 111, 109, 105, 99]⟩, .bool true, 4⟩, ⟨.string ⟨#[99, 111, 109, 112, 111, 117, 110, 100]⟩, .bool false, 5⟩, ⟨.string ⟨#[99, 97, 108, 108, 97, 98, 108, 101]⟩, .bool false, 6⟩] 7 rfl HM7.out (3, .bool false) (by kernel_rfl) ?_)
    | (with_reducible show wpList _ _ _ (⟨some 81, _, _, _, _, _⟩ :: _) _ _
       refine wpList_lookup_valG (by rfl) 77 (.tmp 80) (.const (.string ⟨#[99, 97, 108, 108, 97, 98, 108, 101]⟩)) rfl _ _ _ Try.underlying77 Try.underlying9 rfl mb #[⟨.string ⟨#[118, 97, 114]⟩, .bool false, 0⟩, ⟨.string ⟨#[110, 111, 110, 118, 97, 114]⟩, .bool true, 1⟩, ⟨.string ⟨#[105, 110, 116, 101, 103, 101, 114]⟩, .bool true, 2⟩, ⟨.string ⟨#[97, 116, 111, 109]⟩, .bool false, 3⟩, ⟨.string ⟨#[97, 116, 111, 109, 105, 99]⟩, .bool true, 4⟩, ⟨.string ⟨#[99, 111, 109, 112, 111, 117, 110, 100]⟩, .bool false, 5⟩, ⟨.string ⟨#[99, 97, 108, 108, 97, 98, 108, 101]⟩, .bool false, 6⟩] 7 rfl HM7.out (6, .bool false) (by kernel_rfl) ?_)
    | (with_reducible show wpList _ _ _ (⟨some 83, _, _, _, _, _⟩ :: _) _ _
       refine wpList_lookup_valG (by rfl) 77 (.tmp 82) (.const (.string ⟨#[97, 116, 111, 109]⟩)) rfl _ _ _ Try.underlying77 Try.underlying9 rfl mb #[⟨.string ⟨#[118, 97, 114]⟩, .bool false, 0⟩, ⟨.string ⟨#[110, 111, 110, 118, 97, 114]⟩, .bool true, 1⟩, ⟨.string ⟨#[105, 110, 116, 101, 103, 101, 114]⟩, .bool true, 2⟩, ⟨.string ⟨#[97, 116, 111, 109]⟩, .bool false, 3⟩, ⟨.string ⟨#[97, 116, 111, 109, 105, 99]⟩, .bool true, 4⟩, ⟨.string ⟨#[99, 111, 109, 112, 111, 117, 110, 100]⟩, .bool false, 5⟩, ⟨.string ⟨#[99, 97, 108, 108, 97, 98, 108, 101]⟩, .bool false, 6⟩] 7 rfl HM7.out (3, .bool false) (by kernel_rfl) ?_)
    | (with_reducible show wpList _ _ _ (⟨some 86, _, _, _, _, _⟩ :: _) _ _
       refine wpList_lookup_valG (by rfl) 77 (.tmp 85) (.const (.string ⟨#[99, 111, 109, 112, 111, 117, 110, 100]⟩)) rfl _ _ _ Try.underlying77 Try.underlying9 rfl mb #[⟨.string ⟨#[118, 97, 114]⟩, .bool false, 0⟩, ⟨.string ⟨#[110, 111, 110, 118, 97, 114]⟩, .bool true, 1⟩, ⟨.string ⟨#[105, 110, 116, 101, 103, 101, 114]⟩, .bool true, 2⟩, ⟨.string ⟨#[97, 116, 111, 109]⟩, .bool false, 3⟩, ⟨.string ⟨#[97, 116, 111, 109, 105, 99]⟩, .bool true, 4⟩, ⟨.string ⟨#[99, 111, 109, 112, 111, 117, 110, 100]⟩, .bool false, 5⟩, ⟨.string ⟨#[99, 97, 108, 108, 97, 98, 108, 101]⟩, .bool false, 6⟩] 7 rfl HM7.out (5, .bool false) (by kernel_rfl) ?_))
  go_ret
  exact ⟨rfl, HB7.out⟩
set_option maxRecDepth 100000 in
set_option maxHeartbeats 16000000 in
theorem law_kinds3 (L : List Pt) (v1 : Value) (w : World) (h1 : PtSl w v1 L) (g1 : L.length ≤ 60) (hk : (goodT L).k = 3) : Calls Try.prog 8 #[v1] w (Says true w) := by
  obtain ⟨a1, c1, rfl, hc1, hm1⟩ := h1.form
  have H1 := Lib.hid h1
  have HK := Lib.hid hk
  have HC := Lib.hid (good_check17 L g1)
  clear h1 hk
  have d1 : decide (60 < (L.length : Int)) = false := by simp; omega
  have HSZ := Lib.hid (show (goodT L).size ≤ 1000000000 by have := goodT_size L; omega)
  go_enter Try.func8, Try.ntmps8
  go_wp2_with fail
  refine (l17_alive _).mono ?_
  rintro e1 w1 ⟨rfl, hb1⟩
  have HB := Lib.hid hb1
  clear hb1
  go_wp2_with fail
  refine (ref_great L _ _ (H1.out.below HB.out)).mono ?_
  rintro e2 w2 ⟨rfl, rfl⟩
  go_wp2_with fail
  refine (ref_good L _ _ (by omega) (H1.out.below HB.out)).mono ?_
  rintro e3 w3 ⟨v3, rfl, hi3, hb3⟩
  obtain ⟨b1, k1, rfl⟩ := hi3.form
  have HX := Lib.hid (hi3.lt.imp (P' := fun b => b < w3.heap.size) (fun b h => h.2) fun _ _ _ => rfl)
  have HB3 := Lib.hid (HB.out.trans (hb3.mono HB.out.size))
  clear hi3 hb3 HB H1
  generalize goodT L = T at *
  rw [HK.out]
  have hx4 : IsTm w3 (fun b => b < w3.heap.size) (.agg #[.int .i64 3, .int .i64 T.n, .string T.s, .slice b1 T.args.length k1]) T := by have := HX.out; rw [HK.out] at this; exact this
  have ha4 : Below w3.heap.size w3 (w3.alloc (.cells #[.int .i64 3, .int .i64 T.n, .string T.s, .slice b1 T.args.length k1] 49 (0, 0))) := (Below.refl _ _).alloc (Nat.le_refl _) _
  have hr4 := heap_alloc_new w3 (.cells #[.int .i64 3, .int .i64 T.n, .string T.s, .slice b1 T.args.length k1] 49 (0, 0))
  have HX4 := Lib.hid hx4
  have HA4 := Lib.hid ha4
  have HR4 := Lib.hid hr4
  clear hx4 ha4 hr4 HX
  go_wp2_with (with_reducible show wpList _ _ _ (⟨some 18, _, _, _, _, _⟩ :: _) _ _
               go_must (
                 refine wpList_map_start rfl 77 rfl _ (Below.refl _ _) ?_
                 intro mb w5 h5
                 have HF := Lib.hid h5
                 clear h5))
  have hw5 := HF.out.bel
  have HT0 := Lib.hid (HX4.out.below (HA4.out.trans (hw5.mono HA4.out.size)))
  have HB0 := Lib.hid (HB3.out.trans ((HA4.out.trans (hw5.mono HA4.out.size)).mono HB3.out.size))
  have HR0 := Lib.hid (row_on HR4.out hw5)
  have HM0 := Lib.hid HF.out.at_
  have hm0 : w3.heap.size < mb := by have := HF.out.low; simp at this; omega
  have hz0 : w.heap.size ≤ w3.heap.size := HB3.out.size
  clear hw5 HX4 HB3 HR4 HF HA4
  refine wp_loop_rounds 8 ?_
  rw [rounds_succ]
  obtain ⟨y0, y1, y2, y3⟩ := row4 HR0.out
  have hix : ∀ W : World, (Instr.index 78 (.agg #[.string ⟨#[118, 97, 114]⟩, .string ⟨#[110, 111, 110, 118, 97, 114]⟩, .string ⟨#[105, 110, 116, 101, 103, 101, 114]⟩, .string ⟨#[97, 116, 111, 109]⟩, .string ⟨#[97, 116, 111, 109, 105, 99]⟩, .string ⟨#[99, 111, 109, 112, 111, 117, 110, 100]⟩, .string ⟨#[99, 97, 108, 108, 97, 98, 108, 101]⟩]) (.int .i64 0)).run Try.prog W = .ok (.string ⟨#[118, 97, 114]⟩) W := fun W => by kernel_rfl
  go_wp2_with fail
  have hal := (Below.refl w5.heap.size w5).alloc (Nat.le_refl _) (.cells #[.int .i64 3, .int .i64 T.n, .string T.s, .slice b1 T.args.length k1] 49 (0, 0))
  have hrw : IsSl (w5.alloc (.cells #[.int .i64 3, .int .i64 T.n, .string T.s, .slice b1 T.args.length k1] 49 (0, 0))) AnyB (.slice (some ⟨w5.heap.size, 0, none⟩) 1 1) [T] := by
    have := row1 (x := T) (a := b1) (c := k1) (w := w5) (by rw [HK.out]; exact HT0.out.any)
    rw [HK.out] at this
    exact this
  have hdo := sh_Do_sort .k0 T AnyB _ _ _ hrw HSZ.out HC.out
  rw [HK.out] at hdo
  refine hdo.mono ?_
  rintro e u0 ⟨rfl, hbu⟩
  have hbx := hal.trans (hbu.mono hal.size)
  have hal2 := (Below.refl u0.heap.size u0).alloc (Nat.le_refl _) (.cells #[.bool false, .slice none 0 0, .slice none 0 0, .int .i64 0, .int .i64 0, .string ⟨#[]⟩, .slice none 0 0] 71 (0, 0))
  have hby := hbx.trans (hal2.mono hbx.size)
  have HRX := Lib.hid (row_on HR0.out hby)
  have HTX := Lib.hid (HT0.out.below hby)
  have HBX := Lib.hid (HB0.out.trans (hby.mono HB0.out.size))
  have HMX := Lib.hid (row_on HM0.out hby)
  have hzx := HB0.out.size
  show _
  clear y0 y1 y2 y3 hix hal hrw hdo hbu hbx hal2 hby HR0 HT0 HB0 HM0
  have hdb : (didB (false)) = .agg #[.bool false, .slice none 0 0, .slice none 0 0, .int .i64 0, .int .i64 0, .string ⟨#[]⟩, .slice none 0 0] := rfl
  simp only [didB]
  go_wp2_with (with_reducible show wpList _ _ _ (⟨none, .mapUpdate _ _ _ _, _, _, _, _⟩ :: _) _ _
               go_must (
                 refine wpList_mapUpdate_new rfl 77 (.tmp 44) (.tmp 45) (.tmp 47) rfl _ _ _ Try.underlying77 Try.underlying9 rfl mb #[] 0 rfl HMX.out (by kernel_rfl) ?_
                 intro wm1 hmu hgu
                 have HM1 := Lib.hid (show wm1.heap[mb]? = some (.map #[⟨.string ⟨#[118, 97, 114]⟩, .bool false, 0⟩] 1) from hmu)
                 have hlt4 := (Array.getElem?_eq_some_iff.1 HRX.out).1
                 have HR1 := Lib.hid ((hgu.block w3.heap.size hlt4 (fun e => by simp at e; omega)).trans HRX.out)
                 have HT1 := Lib.hid (HTX.out.imp (P' := fun b => b < w3.heap.size) (fun _ h => h) fun b hb hlt => hgu.block b hlt (fun e => by simp at e; omega))
                 have HB1 := Lib.hid (below_grown HBX.out hgu (by omega) HBX.out.size)
                 clear hmu hgu hlt4 HRX HTX HBX HMX))
  rw [rounds_succ]
  obtain ⟨y0, y1, y2, y3⟩ := row4 HR1.out
  have hix : ∀ W : World, (Instr.index 78 (.agg #[.string ⟨#[118, 97, 114]⟩, .string ⟨#[110, 111, 110, 118, 97, 114]⟩, .string ⟨#[105, 110, 116, 101, 103, 101, 114]⟩, .string ⟨#[97, 116, 111, 109]⟩, .string ⟨#[97, 116, 111, 109, 105, 99]⟩, .string ⟨#[99, 111, 109, 112, 111, 117, 110, 100]⟩, .string ⟨#[99, 97, 108, 108, 97, 98, 108, 101]⟩]) (.int .i64 1)).run Try.prog W = .ok (.string ⟨#[110, 111, 110, 118, 97, 114]⟩) W := fun W => by kernel_rfl
  go_wp2_with fail
  have hal := (Below.refl wm1.heap.size wm1).alloc (Nat.le_refl _) (.cells #[.int .i64 3, .int .i64 T.n, .string T.s, .slice b1 T.args.length k1] 49 (0, 0))
  have hrw : IsSl (wm1.alloc (.cells #[.int .i64 3, .int .i64 T.n, .string T.s, .slice b1 T.args.length k1] 49 (0, 0))) AnyB (.slice (some ⟨wm1.heap.size, 0, none⟩) 1 1) [T] := by
    have := row1 (x := T) (a := b1) (c := k1) (w := wm1) (by rw [HK.out]; exact HT1.out.any)
    rw [HK.out] at this
    exact this
  have hdo := sh_Do_sort .k1 T AnyB _ _ _ hrw HSZ.out HC.out
  rw [HK.out] at hdo
  refine hdo.mono ?_
  rintro e u1 ⟨rfl, hbu⟩
  have hbx := hal.trans (hbu.mono hal.size)
  have hal2 := (Below.refl u1.heap.size u1).alloc (Nat.le_refl _) (.cells #[.bool true, .slice none 0 0, .slice none 0 0, .int .i64 0, .int .i64 0, .string ⟨#[]⟩, .slice none 0 0] 71 (0, 0))
  have hby := hbx.trans (hal2.mono hbx.size)
  have HRX := Lib.hid (row_on HR1.out hby)
  have HTX := Lib.hid (HT1.out.below hby)
  have HBX := Lib.hid (HB1.out.trans (hby.mono HB1.out.size))
  have HMX := Lib.hid (row_on HM1.out hby)
  have hzx := HB1.out.size
  show _
  clear y0 y1 y2 y3 hix hal hrw hdo hbu hbx hal2 hby HR1 HT1 HB1 HM1
  have hdb : (didB (true)) = .agg #[.bool true, .slice none 0 0, .slice none 0 0, .int .i64 0, .int .i64 0, .string ⟨#[]⟩, .slice none 0 0] := rfl
  simp only [didB]
  go_wp2_with (with_reducible show wpList _ _ _ (⟨none, .mapUpdate _ _ _ _, _, _, _, _⟩ :: _) _ _
               go_must (
                 refine wpList_mapUpdate_new rfl 77 (.tmp 44) (.tmp 45) (.tmp 47) rfl _ _ _ Try.underlying77 Try.underlying9 rfl mb #[⟨.string ⟨#[118, 97, 114]⟩, .bool false, 0⟩] 1 rfl HMX.out (by kernel_rfl) ?_
                 intro wm2 hmu hgu
                 have HM2 := Lib.hid (show wm2.heap[mb]? = some (.map #[⟨.string ⟨#[118, 97, 114]⟩, .bool false, 0⟩, ⟨.string ⟨#[110, 111, 110, 118, 97, 114]⟩, .bool true, 1⟩] 2) from hmu)
                 have hlt4 := (Array.getElem?_eq_some_iff.1 HRX.out).1
                 have HR2 := Lib.hid ((hgu.block w3.heap.size hlt4 (fun e => by simp at e; omega)).trans HRX.out)
                 have HT2 := Lib.hid (HTX.out.imp (P' := fun b => b < w3.heap.size) (fun _ h => h) fun b hb hlt => hgu.block b hlt (fun e => by simp at e; omega))
                 have HB2 := Lib.hid (below_grown HBX.out hgu (by omega) HBX.out.size)
                 clear hmu hgu hlt4 HRX HTX HBX HMX))
  rw [rounds_succ]
  obtain ⟨y0, y1, y2, y3⟩ := row4 HR2.out
  have hix : ∀ W : World, (Instr.index 78 (.agg #[.string ⟨#[118, 97, 114]⟩, .string ⟨#[110, 111, 110, 118, 97, 114]⟩, .string ⟨#[105, 110, 116, 101, 103, 101, 114]⟩, .string ⟨#[97, 116, 111, 109]⟩, .string ⟨#[97, 116, 111, 109, 105, 99]⟩, .string ⟨#[99, 111, 109, 112, 111, 117, 110, 100]⟩, .string ⟨#[99, 97, 108, 108, 97, 98, 108, 101]⟩]) (.int .i64 2)).run Try.prog W = .ok (.string ⟨#[105, 110, 116, 101, 103, 101, 114]⟩) W := fun W => by kernel_rfl
  go_wp2_with fail
  have hal := (Below.refl wm2.heap.size wm2).alloc (Nat.le_refl _) (.cells #[.int .i64 3, .int .i64 T.n, .string T.s, .slice b1 T.args.length k1] 49 (0, 0))
  have hrw : IsSl (wm2.alloc (.cells #[.int .i64 3, .int .i64 T.n, .string T.s, .slice b1 T.args.length k1] 49 (0, 0))) AnyB (.slice (some ⟨wm2.heap.size, 0, none⟩) 1 1) [T] := by
    have := row1 (x := T) (a := b1) (c := k1) (w := wm2) (by rw [HK.out]; exact HT2.out.any)
    rw [HK.out] at this
    exact this
  have hdo := sh_Do_sort .k3 T AnyB _ _ _ hrw HSZ.out HC.out
  rw [HK.out] at hdo
  refine hdo.mono ?_
  rintro e u2 ⟨rfl, hbu⟩
  have hbx := hal.trans (hbu.mono hal.size)
  have hal2 := (Below.refl u2.heap.size u2).alloc (Nat.le_refl _) (.cells #[.bool false, .slice none 0 0, .slice none 0 0, .int .i64 0, .int .i64 0, .string ⟨#[]⟩, .slice none 0 0] 71 (0, 0))
  have hby := hbx.trans (hal2.mono hbx.size)
  have HRX := Lib.hid (row_on HR2.out hby)
  have HTX := Lib.hid (HT2.out.below hby)
  have HBX := Lib.hid (HB2.out.trans (hby.mono HB2.out.size))
  have HMX := Lib.hid (row_on HM2.out hby)
  have hzx := HB2.out.size
  show _
  clear y0 y1 y2 y3 hix hal hrw hdo hbu hbx hal2 hby HR2 HT2 HB2 HM2
  have hdb : (didB (false)) = .agg #[.bool false, .slice none 0 0, .slice none 0 0, .int .i64 0, .int .i64 0, .string ⟨#[]⟩, .slice none 0 0] := rfl
  simp only [didB]
  go_wp2_with (with_reducible show wpList _ _ _ (⟨none, .mapUpdate _ _ _ _, _, _, _, _⟩ :: _) _ _
               go_must (
                 refine wpList_mapUpdate_new rfl 77 (.tmp 44) (.tmp 45) (.tmp 47) rfl _ _ _ Try.underlying77 Try.underlying9 rfl mb #[⟨.string ⟨#[118, 97, 114]⟩, .bool false, 0⟩, ⟨.string ⟨#[110, 111, 110, 118, 97, 114]⟩, .bool true, 1⟩] 2 rfl HMX.out (by kernel_rfl) ?_
                 intro wm3 hmu hgu
                 have HM3 := Lib.hid (show wm3.heap[mb]? = some (.map #[⟨.string ⟨#[118, 97, 114]⟩, .bool false, 0⟩, ⟨.string ⟨#[110, 111, 110, 118, 97, 114]⟩, .bool true, 1⟩, ⟨.string ⟨#[105, 110, 116, 101, 103, 101, 114]⟩, .bool false, 2⟩] 3) from hmu)
                 have hlt4 := (Array.getElem?_eq_some_iff.1 HRX.out).1
                 have HR3 := Lib.hid ((hgu.block w3.heap.size hlt4 (fun e => by simp at e; omega)).trans HRX.out)
                 have HT3 := Lib.hid (HTX.out.imp (P' := fun b => b < w3.heap.size) (fun _ h => h) fun b hb hlt => hgu.block b hlt (fun e => by simp at e; omega))
                 have HB3 := Lib.hid (below_grown HBX.out hgu (by omega) HBX.out.size)
                 clear hmu hgu hlt4 HRX HTX HBX HMX))
  rw [rounds_succ]
  obtain ⟨y0, y1, y2, y3⟩ := row4 HR3.out
  have hix : ∀ W : World, (Instr.index 78 (.agg #[.string ⟨#[118, 97, 114]⟩, .string ⟨#[110, 111, 110, 118, 97, 114]⟩, .string ⟨#[105, 110, 116, 101, 103, 101, 114]⟩, .string ⟨#[97, 116, 111, 109]⟩, .string ⟨#[97, 116, 111, 109, 105, 99]⟩, .string ⟨#[99, 111, 109, 112, 111, 117, 110, 100]⟩, .string ⟨#[99, 97, 108, 108, 97, 98, 108, 101]⟩]) (.int .i64 3)).run Try.prog W = .ok (.string ⟨#[97, 116, 111, 109]⟩) W := fun W => by kernel_rfl
  go_wp2_with fail
  have hal := (Below.refl wm3.heap.size wm3).alloc (Nat.le_refl _) (.cells #[.int .i64 3, .int .i64 T.n, .string T.s, .slice b1 T.args.length k1] 49 (0, 0))
  have hrw : IsSl (wm3.alloc (.cells #[.int .i64 3, .int .i64 T.n, .string T.s, .slice b1 T.args.length k1] 49 (0, 0))) AnyB (.slice (some ⟨wm3.heap.size, 0, none⟩) 1 1) [T] := by
    have := row1 (x := T) (a := b1) (c := k1) (w := wm3) (by rw [HK.out]; exact HT3.out.any)
    rw [HK.out] at this
    exact this
  have hdo := sh_Do_sort .k2 T AnyB _ _ _ hrw HSZ.out HC.out
  rw [HK.out] at hdo
  refine hdo.mono ?_
  rintro e u3 ⟨rfl, hbu⟩
  have hbx := hal.trans (hbu.mono hal.size)
  have hal2 := (Below.refl u3.heap.size u3).alloc (Nat.le_refl _) (.cells #[.bool true, .slice none 0 0, .slice none 0 0, .int .i64 0, .int .i64 0, .string ⟨#[]⟩, .slice none 0 0] 71 (0, 0))
  have hby := hbx.trans (hal2.mono hbx.size)
  have HRX := Lib.hid (row_on HR3.out hby)
  have HTX := Lib.hid (HT3.out.below hby)
  have HBX := Lib.hid (HB3.out.trans (hby.mono HB3.out.size))
  have HMX := Lib.hid (row_on HM3.out hby)
  have hzx := HB3.out.size
  show _
  clear y0 y1 y2 y3 hix hal hrw hdo hbu hbx hal2 hby HR3 HT3 HB3 HM3
  have hdb : (didB (true)) = .agg #[.bool true, .slice none 0 0, .slice none 0 0, .int .i64 0, .int .i64 0, .string ⟨#[]⟩, .slice none 0 0] := rfl
  simp only [didB]
  go_wp2_with (with_reducible show wpList _ _ _ (⟨none, .mapUpdate _ _ _ _, _, _, _, _⟩ :: _) _ _
               go_must (
                 refine wpList_mapUpdate_new rfl 77 (.tmp 44) (.tmp 45) (.tmp 47) rfl _ _ _ Try.underlying77 Try.underlying9 rfl mb #[⟨.string ⟨#[118, 97, 114]⟩, .bool false, 0⟩, ⟨.string ⟨#[110, 111, 110, 118, 97, 114]⟩, .bool true, 1⟩, ⟨.string ⟨#[105, 110, 116, 101, 103, 101, 114]⟩, .bool false, 2⟩] 3 rfl HMX.out (by kernel_rfl) ?_
                 intro wm4 hmu hgu
                 have HM4 := Lib.hid (show wm4.heap[mb]? = some (.map #[⟨.string ⟨#[118, 97, 114]⟩, .bool false, 0⟩, ⟨.string ⟨#[110, 111, 110, 118, 97, 114]⟩, .bool true, 1⟩, ⟨.string ⟨#[105, 110, 116, 101, 103, 101, 114]⟩, .bool false, 2⟩, ⟨.string ⟨#[97, 116, 111, 109]⟩, .bool true, 3⟩] 4) from hmu)
                 have hlt4 := (Array.getElem?_eq_some_iff.1 HRX.out).1
                 have HR4 := Lib.hid ((hgu.block w3.heap.size hlt4 (fun e => by simp at e; omega)).trans HRX.out)
                 have HT4 := Lib.hid (HTX.out.imp (P' := fun b => b < w3.heap.size) (fun _ h => h) fun b hb hlt => hgu.block b hlt (fun e => by simp at e; omega))
                 have HB4 := Lib.hid (below_grown HBX.out hgu (by omega) HBX.out.size)
                 clear hmu hgu hlt4 HRX HTX HBX HMX))
  rw [rounds_succ]
  obtain ⟨y0, y1, y2, y3⟩ := row4 HR4.out
  have hix : ∀ W : World, (Instr.index 78 (.agg #[.string ⟨#[118, 97, 114]⟩, .string ⟨#[110, 111, 110, 118, 97, 114]⟩, .string ⟨#[105, 110, 116, 101, 103, 101, 114]⟩, .string ⟨#[97, 116, 111, 109]⟩, .string ⟨#[97, 116, 111, 109, 105, 99]⟩, .string ⟨#[99, 111, 109, 112, 111, 117, 110, 100]⟩, .string ⟨#[99, 97, 108, 108, 97, 98, 108, 101]⟩]) (.int .i64 4)).run Try.prog W = .ok (.string ⟨#[97, 116, 111, 109, 105, 99]⟩) W := fun W => by kernel_rfl
  go_wp2_with fail
  have hal := (Below.refl wm4.heap.size wm4).alloc (Nat.le_refl _) (.cells #[.int .i64 3, .int .i64 T.n, .string T.s, .slice b1 T.args.length k1] 49 (0, 0))
  have hrw : IsSl (wm4.alloc (.cells #[.int .i64 3, .int .i64 T.n, .string T.s, .slice b1 T.args.length k1] 49 (0, 0))) AnyB (.slice (some ⟨wm4.heap.size, 0, none⟩) 1 1) [T] := by
    have := row1 (x := T) (a := b1) (c := k1) (w := wm4) (by rw [HK.out]; exact HT4.out.any)
    rw [HK.out] at this
    exact this
  have hdo := sh_Do_sort .k4 T AnyB _ _ _ hrw HSZ.out HC.out
  rw [HK.out] at hdo
  refine hdo.mono ?_
  rintro e u4 ⟨rfl, hbu⟩
  have hbx := hal.trans (hbu.mono hal.size)
  have hal2 := (Below.refl u4.heap.size u4).alloc (Nat.le_refl _) (.cells #[.bool true, .slice none 0 0, .slice none 0 0, .int .i64 0, .int .i64 0, .string ⟨#[]⟩, .slice none 0 0] 71 (0, 0))
  have hby := hbx.trans (hal2.mono hbx.size)
  have HRX := Lib.hid (row_on HR4.out hby)
  have HTX := Lib.hid (HT4.out.below hby)
  have HBX := Lib.hid (HB4.out.trans (hby.mono HB4.out.size))
  have HMX := Lib.hid (row_on HM4.out hby)
  have hzx := HB4.out.size
  show _
  clear y0 y1 y2 y3 hix hal hrw hdo hbu hbx hal2 hby HR4 HT4 HB4 HM4
  have hdb : (didB (true)) = .agg #[.bool true, .slice none 0 0, .slice none 0 0, .int .i64 0, .int .i64 0, .string ⟨#[]⟩, .slice none 0 0] := rfl
  simp only [didB]
  go_wp2_with (with_reducible show wpList _ _ _ (⟨none, .mapUpdate _ _ _ _, _, _, _, _⟩ :: _) _ _
               go_must (
                 refine wpList_mapUpdate_new rfl 77 (.tmp 44) (.tmp 45) (.tmp 47) rfl _ _ _ Try.underlying77 Try.underlying9 rfl mb #[⟨.string ⟨#[118, 97, 114]⟩, .bool false, 0⟩, ⟨.string ⟨#[110, 111, 110, 118, 97, 114]⟩, .bool true, 1⟩, ⟨.string ⟨#[105, 110, 116, 101, 103, 101, 114]⟩, .bool false, 2⟩, ⟨.string ⟨#[97, 116, 111, 109]⟩, .bool true, 3⟩] 4 rfl HMX.out (by kernel_rfl) ?_
                 intro wm5 hmu hgu
                 have HM5 := Lib.hid (show wm5.heap[mb]? = some (.map #[⟨.string ⟨#[118, 97, 114]⟩, .bool false, 0⟩, ⟨.string ⟨#[110, 111, 110, 118, 97, 114]⟩, .bool true, 1⟩, ⟨.string ⟨#[105, 110, 116, 101, 103, 101, 114]⟩, .bool false, 2⟩, ⟨.string ⟨#[97, 116, 111, 109]⟩, .bool true, 3⟩, ⟨.string ⟨#[97, 116, 111, 109, 105, 99]⟩, .bool true, 4⟩] 5) from hmu)
                 have hlt4 := (Array.getElem?_eq_some_iff.1 HRX.out).1
                 have HR5 := Lib.hid ((hgu.block w3.heap.size hlt4 (fun e => by simp at e; omega)).trans HRX.out)
                 have HT5 := Lib.hid (HTX.out.imp (P' := fun b => b < w3.heap.size) (fun _ h => h) fun b hb hlt => hgu.block b hlt (fun e => by simp at e; omega))
                 have HB5 := Lib.hid (below_grown HBX.out hgu (by omega) HBX.out.size)
                 clear hmu hgu hlt4 HRX HTX HBX HMX))
  rw [rounds_succ]
  obtain ⟨y0, y1, y2, y3⟩ := row4 HR5.out
  have hix : ∀ W : World, (Instr.index 78 (.agg #[.string ⟨#[118, 97, 114]⟩, .string ⟨#[110, 111, 110, 118, 97, 114]⟩, .string ⟨#[105, 110, 116, 101, 103, 101, 114]⟩, .string ⟨#[97, 116, 111, 109]⟩, .string ⟨#[97, 116, 111, 109, 105, 99]⟩, .string ⟨#[99, 111, 109, 112, 111, 117, 110, 100]⟩, .string ⟨#[99, 97, 108, 108, 97, 98, 108, 101]⟩]) (.int .i64 5)).run Try.prog W = .ok (.string ⟨#[99, 111, 109, 112, 111, 117, 110, 100]⟩) W := fun W => by kernel_rfl
  go_wp2_with fail
  have hal := (Below.refl wm5.heap.size wm5).alloc (Nat.le_refl _) (.cells #[.int .i64 3, .int .i64 T.n, .string T.s, .slice b1 T.args.length k1] 49 (0, 0))
  have hrw : IsSl (wm5.alloc (.cells #[.int .i64 3, .int .i64 T.n, .string T.s, .slice b1 T.args.length k1] 49 (0, 0))) AnyB (.slice (some ⟨wm5.heap.size, 0, none⟩) 1 1) [T] := by
    have := row1 (x := T) (a := b1) (c := k1) (w := wm5) (by rw [HK.out]; exact HT5.out.any)
    rw [HK.out] at this
    exact this
  have hdo := sh_Do_sort .k5 T AnyB _ _ _ hrw HSZ.out HC.out
  rw [HK.out] at hdo
  refine hdo.mono ?_
  rintro e u5 ⟨rfl, hbu⟩
  have hbx := hal.trans (hbu.mono hal.size)
  have hal2 := (Below.refl u5.heap.size u5).alloc (Nat.le_refl _) (.cells #[.bool false, .slice none 0 0, .slice none 0 0, .int .i64 0, .int .i64 0, .string ⟨#[]⟩, .slice none 0 0] 71 (0, 0))
  have hby := hbx.trans (hal2.mono hbx.size)
  have HRX := Lib.hid (row_on HR5.out hby)
  have HTX := Lib.hid (HT5.out.below hby)
  have HBX := Lib.hid (HB5.out.trans (hby.mono HB5.out.size))
  have HMX := Lib.hid (row_on HM5.out hby)
  have hzx := HB5.out.size
  show _
  clear y0 y1 y2 y3 hix hal hrw hdo hbu hbx hal2 hby HR5 HT5 HB5 HM5
  have hdb : (didB (false)) = .agg #[.bool false, .slice none 0 0, .slice none 0 0, .int .i64 0, .int .i64 0, .string ⟨#[]⟩, .slice none 0 0] := rfl
  simp only [didB]
  go_wp2_with (with_reducible show wpList _ _ _ (⟨none, .mapUpdate _ _ _ _, _, _, _, _⟩ :: _) _ _
               go_must (
                 refine wpList_mapUpdate_new rfl 77 (.tmp 44) (.tmp 45) (.tmp 47) rfl _ _ _ Try.underlying77 Try.underlying9 rfl mb #[⟨.string ⟨#[118, 97, 114]⟩, .bool false, 0⟩, ⟨.string ⟨#[110, 111, 110, 118, 97, 114]⟩, .bool true, 1⟩, ⟨.string ⟨#[105, 110, 116, 101, 103, 101, 114]⟩, .bool false, 2⟩, ⟨.string ⟨#[97, 116, 111, 109]⟩, .bool true, 3⟩, ⟨.string ⟨#[97, 116, 111, 109, 105, 99]⟩, .bool true, 4⟩] 5 rfl HMX.out (by kernel_rfl) ?_
                 intro wm6 hmu hgu
                 have HM6 := Lib.hid (show wm6.heap[mb]? = some (.map #[⟨.string ⟨#[118, 97, 114]⟩, .bool false, 0⟩, ⟨.string ⟨#[110, 111, 110, 118, 97, 114]⟩, .bool true, 1⟩, ⟨.string ⟨#[105, 110, 116, 101, 103, 101, 114]⟩, .bool false, 2⟩, ⟨.string ⟨#[97, 116, 111, 109]⟩, .bool true, 3⟩, ⟨.string ⟨#[97, 116, 111, 109, 105, 99]⟩, .bool true, 4⟩, ⟨.string ⟨#[99, 111, 109, 112, 111, 117, 110, 100]⟩, .bool false, 5⟩] 6) from hmu)
                 have hlt4 := (Array.getElem?_eq_some_iff.1 HRX.out).1
                 have HR6 := Lib.hid ((hgu.block w3.heap.size hlt4 (fun e => by simp at e; omega)).trans HRX.out)
                 have HT6 := Lib.hid (HTX.out.imp (P' := fun b => b < w3.heap.size) (fun _ h => h) fun b hb hlt => hgu.block b hlt (fun e => by simp at e; omega))
                 have HB6 := Lib.hid (below_grown HBX.out hgu (by omega) HBX.out.size)
                 clear hmu hgu hlt4 HRX HTX HBX HMX))
  rw [rounds_succ]
  obtain ⟨y0, y1, y2, y3⟩ := row4 HR6.out
  have hix : ∀ W : World, (Instr.index 78 (.agg #[.string ⟨#[118, 97, 114]⟩, .string ⟨#[110, 111, 110, 118, 97, 114]⟩, .string ⟨#[105, 110, 116, 101, 103, 101, 114]⟩, .string ⟨#[97, 116, 111, 109]⟩, .string ⟨#[97, 116, 111, 109, 105, 99]⟩, .string ⟨#[99, 111, 109, 112, 111, 117, 110, 100]⟩, .string ⟨#[99, 97, 108, 108, 97, 98, 108, 101]⟩]) (.int .i64 6)).run Try.prog W = .ok (.string ⟨#[99, 97, 108, 108, 97, 98, 108, 101]⟩) W := fun W => by kernel_rfl
  go_wp2_with fail
  have hal := (Below.refl wm6.heap.size wm6).alloc (Nat.le_refl _) (.cells #[.int .i64 3, .int .i64 T.n, .string T.s, .slice b1 T.args.length k1] 49 (0, 0))
  have hrw : IsSl (wm6.alloc (.cells #[.int .i64 3, .int .i64 T.n, .string T.s, .slice b1 T.args.length k1] 49 (0, 0))) AnyB (.slice (some ⟨wm6.heap.size, 0, none⟩) 1 1) [T] := by
    have := row1 (x := T) (a := b1) (c := k1) (w := wm6) (by rw [HK.out]; exact HT6.out.any)
    rw [HK.out] at this
    exact this
  have hdo := sh_Do_sort .k6 T AnyB _ _ _ hrw HSZ.out HC.out
  rw [HK.out] at hdo
  refine hdo.mono ?_
  rintro e u6 ⟨rfl, hbu⟩
  have hbx := hal.trans (hbu.mono hal.size)
  have hal2 := (Below.refl u6.heap.size u6).alloc (Nat.le_refl _) (.cells #[.bool true, .slice none 0 0, .slice none 0 0, .int .i64 0, .int .i64 0, .string ⟨#[]⟩, .slice none 0 0] 71 (0, 0))
  have hby := hbx.trans (hal2.mono hbx.size)
  have HRX := Lib.hid (row_on HR6.out hby)
  have HTX := Lib.hid (HT6.out.below hby)
  have HBX := Lib.hid (HB6.out.trans (hby.mono HB6.out.size))
  have HMX := Lib.hid (row_on HM6.out hby)
  have hzx := HB6.out.size
  show _
  clear y0 y1 y2 y3 hix hal hrw hdo hbu hbx hal2 hby HR6 HT6 HB6 HM6
  have hdb : (didB (true)) = .agg #[.bool true, .slice none 0 0, .slice none 0 0, .int .i64 0, .int .i64 0, .string ⟨#[]⟩, .slice none 0 0] := rfl
  simp only [didB]
  go_wp2_with (with_reducible show wpList _ _ _ (⟨none, .mapUpdate _ _ _ _, _, _, _, _⟩ :: _) _ _
               go_must (
                 refine wpList_mapUpdate_new rfl 77 (.tmp 44) (.tmp 45) (.tmp 47) rfl _ _ _ Try.underlying77 Try.underlying9 rfl mb #[⟨.string ⟨#[118, 97, 114]⟩, .bool false, 0⟩, ⟨.string ⟨#[110, 111, 110, 118, 97, 114]⟩, .bool true, 1⟩, ⟨.string ⟨#[105, 110, 116, 101, 103, 101, 114]⟩, .bool false, 2⟩, ⟨.string ⟨#[97, 116, 111, 109]⟩, .bool true, 3⟩, ⟨.string ⟨#[97, 116, 111, 109, 105, 99]⟩, .bool true, 4⟩, ⟨.string ⟨#[99, 111, 109, 112, 111, 117, 110, 100]⟩, .bool false, 5⟩] 6 rfl HMX.out (by kernel_rfl) ?_
                 intro wm7 hmu hgu
                 have HM7 := Lib.hid (show wm7.heap[mb]? = some (.map #[⟨.string ⟨#[118, 97, 114]⟩, .bool false, 0⟩, ⟨.string ⟨#[110, 111, 110, 118, 97, 114]⟩, .bool true, 1⟩, ⟨.string ⟨#[105, 110, 116, 101, 103, 101, 114]⟩, .bool false, 2⟩, ⟨.string ⟨#[97, 116, 111, 109]⟩, .bool true, 3⟩, ⟨.string ⟨#[97, 116, 111, 109, 105, 99]⟩, .bool true, 4⟩, ⟨.string ⟨#[99, 111, 109, 112, 111, 117, 110, 100]⟩, .bool false, 5⟩, ⟨.string ⟨#[99, 97, 108, 108, 97, 98, 108, 101]⟩, .bool true, 6⟩] 7) from hmu)
                 have hlt4 := (Array.getElem?_eq_some_iff.1 HRX.out).1
                 have HR7 := Lib.hid ((hgu.block w3.heap.size hlt4 (fun e => by simp at e; omega)).trans HRX.out)
                 have HT7 := Lib.hid (HTX.out.imp (P' := fun b => b < w3.heap.size) (fun _ h => h) fun b hb hlt => hgu.block b hlt (fun e => by simp at e; omega))
                 have HB7 := Lib.hid (below_grown HBX.out hgu (by omega) HBX.out.size)
                 clear hmu hgu hlt4 HRX HTX HBX HMX))
  rw [rounds_succ]
  go_wp2
  refine wp_loop_rounds 5 ?_
  rw [rounds_succ]
  have hix : ∀ W : World, (Instr.index 79 (.agg #[.string ⟨#[118, 97, 114]⟩, .string ⟨#[105, 110, 116, 101, 103, 101, 114]⟩, .string ⟨#[97, 116, 111, 109]⟩, .string ⟨#[99, 111, 109, 112, 111, 117, 110, 100]⟩]) (.int .i64 0)).run Try.prog W = .ok (.string ⟨#[118, 97, 114]⟩) W := fun W => by kernel_rfl
  go_wp2_with (with_reducible show wpList _ _ _ (⟨some 55, _, _, _, _, _⟩ :: _) _ _
               go_must (
                 refine wpList_lookup_val rfl 77 (.tmp 53) (.tmp 54) rfl _ _ _ Try.underlying77 Try.underlying9 rfl mb #[⟨.string ⟨#[118, 97, 114]⟩, .bool false, 0⟩, ⟨.string ⟨#[110, 111, 110, 118, 97, 114]⟩, .bool true, 1⟩, ⟨.string ⟨#[105, 110, 116, 101, 103, 101, 114]⟩, .bool false, 2⟩, ⟨.string ⟨#[97, 116, 111, 109]⟩, .bool true, 3⟩, ⟨.string ⟨#[97, 116, 111, 109, 105, 99]⟩, .bool true, 4⟩, ⟨.string ⟨#[99, 111, 109, 112, 111, 117, 110, 100]⟩, .bool false, 5⟩, ⟨.string ⟨#[99, 97, 108, 108, 97, 98, 108, 101]⟩, .bool true, 6⟩] 7 rfl HM7.out (0, .bool false) (by kernel_rfl) ?_))
  clear hix
  rw [rounds_succ]
  have hix : ∀ W : World, (Instr.index 79 (.agg #[.string ⟨#[118, 97, 114]⟩, .string ⟨#[105, 110, 116, 101, 103, 101, 114]⟩, .string ⟨#[97, 116, 111, 109]⟩, .string ⟨#[99, 111, 109, 112, 111, 117, 110, 100]⟩]) (.int .i64 1)).run Try.prog W = .ok (.string ⟨#[105, 110, 116, 101, 103, 101, 114]⟩) W := fun W => by kernel_rfl
  go_wp2_with (with_reducible show wpList _ _ _ (⟨some 55, _, _, _, _, _⟩ :: _) _ _
               go_must (
                 refine wpList_lookup_val rfl 77 (.tmp 53) (.tmp 54) rfl _ _ _ Try.underlying77 Try.underlying9 rfl mb #[⟨.string ⟨#[118, 97, 114]⟩, .bool false, 0⟩, ⟨.string ⟨#[110, 111, 110, 118, 97, 114]⟩, .bool true, 1⟩, ⟨.string ⟨#[105, 110, 116, 101, 103, 101, 114]⟩, .bool false, 2⟩, ⟨.string ⟨#[97, 116, 111, 109]⟩, .bool true, 3⟩, ⟨.string ⟨#[97, 116, 111, 109, 105, 99]⟩, .bool true, 4⟩, ⟨.string ⟨#[99, 111, 109, 112, 111, 117, 110, 100]⟩, .bool false, 5⟩, ⟨.string ⟨#[99, 97, 108, 108, 97, 98, 108, 101]⟩, .bool true, 6⟩] 7 rfl HM7.out (2, .bool false) (by kernel_rfl) ?_))
  clear hix
  rw [rounds_succ]
  have hix : ∀ W : World, (Instr.index 79 (.agg #[.string ⟨#[118, 97, 114]⟩, .string ⟨#[105, 110, 116, 101, 103, 101, 114]⟩, .string ⟨#[97, 116, 111, 109]⟩, .string ⟨#[99, 111, 109, 112, 111, 117, 110, 100]⟩]) (.int .i64 2)).run Try.prog W = .ok (.string ⟨#[97, 116, 111, 109]⟩) W := fun W => by kernel_rfl
  go_wp2_with (with_reducible show wpList _ _ _ (⟨some 55, _, _, _, _, _⟩ :: _) _ _
               go_must (
                 refine wpList_lookup_val rfl 77 (.tmp 53) (.tmp 54) rfl _ _ _ Try.underlying77 Try.underlying9 rfl mb #[⟨.string ⟨#[118, 97, 114]⟩, .bool false, 0⟩, ⟨.string ⟨#[110, 111, 110, 118, 97, 114]⟩, .bool true, 1⟩, ⟨.string ⟨#[105, 110, 116, 101, 103, 101, 114]⟩, .bool false, 2⟩, ⟨.string ⟨#[97, 116, 111, 109]⟩, .bool true, 3⟩, ⟨.string ⟨#[97, 116, 111, 109, 105, 99]⟩, .bool true, 4⟩, ⟨.string ⟨#[99, 111, 109, 112, 111, 117, 110, 100]⟩, .bool false, 5⟩, ⟨.string ⟨#[99, 97, 108, 108, 97, 98, 108, 101]⟩, .bool true, 6⟩] 7 rfl HM7.out (3, .bool true) (by kernel_rfl) ?_))
  clear hix
  rw [rounds_succ]
  have hix : ∀ W : World, (Instr.index 79 (.agg #[.string ⟨#[118, 97, 114]⟩, .string ⟨#[105, 110, 116, 101, 103, 101, 114]⟩, .string ⟨#[97, 116, 111, 109]⟩, .string ⟨#[99, 111, 109, 112, 111, 117, 110, 100]⟩]) (.int .i64 3)).run Try.prog W = .ok (.string ⟨#[99, 111, 109, 112, 111, 117, 110, 100]⟩) W := fun W => by kernel_rfl
  go_wp2_with (with_reducible show wpList _ _ _ (⟨some 55, _, _, _, _, _⟩ :: _) _ _
               go_must (
                 refine wpList_lookup_val rfl 77 (.tmp 53) (.tmp 54) rfl _ _ _ Try.underlying77 Try.underlying9 rfl mb #[⟨.string ⟨#[118, 97, 114]⟩, .bool false, 0⟩, ⟨.string ⟨#[110, 111, 110, 118, 97, 114]⟩, .bool true, 1⟩, ⟨.string ⟨#[105, 110, 116, 101, 103, 101, 114]⟩, .bool false, 2⟩, ⟨.string ⟨#[97, 116, 111, 109]⟩, .bool true, 3⟩, ⟨.string ⟨#[97, 116, 111, 109, 105, 99]⟩, .bool true, 4⟩, ⟨.string ⟨#[99, 111, 109, 112, 111, 117, 110, 100]⟩, .bool false, 5⟩, ⟨.string ⟨#[99, 97, 108, 108, 97, 98, 108, 101]⟩, .bool true, 6⟩] 7 rfl HM7.out (5, .bool false) (by kernel_rfl) ?_))
  clear hix
  rw [rounds_succ]
  go_wp2_with (first
    | (with_reducible show wpList _ _ _ (⟨some 63, _, _, _, _, _⟩ :: _) _ _
       refine wpList_lookup_valG (by rfl) 77 (.tmp 62) (.const (.string ⟨#[110, 111, 110, 118, 97, 114]⟩)) rfl _ _ _ Try.underlying77 Try.underlying9 rfl mb #[⟨.string ⟨#[118, 97, 114]⟩, .bool false, 0⟩, ⟨.string ⟨#[110, 111, 110, 118, 97, 114]⟩, .bool true, 1⟩, ⟨.string ⟨#[105, 110, 116, 101, 103, 101, 114]⟩, .bool false, 2⟩, ⟨.string ⟨#[97, 116, 111, 109]⟩, .bool true, 3⟩, ⟨.string ⟨#[97, 116, 111, 109, 105, 99]⟩, .bool true, 4⟩, ⟨.string ⟨#[99, 111, 109, 112, 111, 117, 110, 100]⟩, .bool false, 5⟩, ⟨.string ⟨#[99, 97, 108, 108, 97, 98, 108, 101]⟩, .bool true, 6⟩] 7 rfl HM7.out (1, .bool true) (by kernel_rfl) ?_)
    | (with_reducible show wpList _ _ _ (⟨some 65, _, _, _, _, _⟩ :: _) _ _
       refine wpList_lookup_valG (by rfl) 77 (.tmp 64) (.const (.string ⟨#[118, 97, 114]⟩)) rfl _ _ _ Try.underlying77 Try.underlying9 rfl mb #[⟨.string ⟨#[118, 97, 114]⟩, .bool false, 0⟩, ⟨.string ⟨#[110, 111, 110, 118, 97, 114]⟩, .bool true, 1⟩, ⟨.string ⟨#[105, 110, 116, 101, 103, 101, 114]⟩, .bool false, 2⟩, ⟨.string ⟨#[97, 116, 111, 109]⟩, .bool true, 3⟩, ⟨.string ⟨#[97, 116, 111, 109, 105, 99]⟩, .bool true, 4⟩, ⟨.string ⟨#[99, 111, 109, 112, 111, 117, 110, 100]⟩, .bool false, 5⟩, ⟨.string ⟨#[99, 97, 108, 108, 97, 98, 108, 101]⟩, .bool true, 6⟩] 7 rfl HM7.out (0, .bool false) (by kernel_rfl) ?_)
    | (with_reducible show wpList _ _ _ (⟨some 70, _, _, _, _, _⟩ :: _) _ _
       refine wpList_lookup_valG (by rfl) 77 (.tmp 69) (.const (.string ⟨#[97, 116, 111, 109, 105, 99]⟩)) rfl _ _ _ Try.underlying77 Try.underlying9 rfl mb #[⟨.string ⟨#[118, 97, 114]⟩, .bool false, 0⟩, ⟨.string ⟨#[110, 111, 110, 118, 97, 114]⟩, .bool true, 1⟩, ⟨.string ⟨#[105, 110, 116, 101, 103, 101, 114]⟩, .bool false, 2⟩, ⟨.string ⟨#[97, 116, 111, 109]⟩, .bool true, 3⟩, ⟨.string ⟨#[97, 116, 111, 109, 105, 99]⟩, .bool true, 4⟩, ⟨.string ⟨#[99, 111, 109, 112, 111, 117, 110, 100]⟩, .bool false, 5⟩, ⟨.string ⟨#[99, 97, 108, 108, 97, 98, 108, 101]⟩, .bool true, 6⟩] 7 rfl HM7.out (4, .bool true) (by kernel_rfl) ?_)
    | (with_reducible show wpList _ _ _ (⟨some 72, _, _, _, _, _⟩ :: _) _ _
       refine wpList_lookup_valG (by rfl) 77 (.tmp 71) (.const (.string ⟨#[105, 110, 116, 101, 103, 101, 114]⟩)) rfl _ _ _ Try.underlying77 Try.underlying9 rfl mb #[⟨.string ⟨#[118, 97, 114]⟩, .bool false, 0⟩, ⟨.string ⟨#[110, 111, 110, 118, 97, 114]⟩, .bool true, 1⟩, ⟨.string ⟨#[105, 110, 116, 101, 103, 101, 114]⟩, .bool false, 2⟩, ⟨.string ⟨#[97, 116, 111, 109]⟩, .bool true, 3⟩, ⟨.string ⟨#[97, 116, 111, 109, 105, 99]⟩, .bool true, 4⟩, ⟨.string ⟨#[99, 111, 109, 112, 111, 117, 110, 100]⟩, .bool false, 5⟩, ⟨.string ⟨#[99, 97, 108, 108, 97, 98, 108, 101]⟩, .bool true, 6⟩] 7 rfl HM7.out (2, .bool false) (by kernel_rfl) ?_)
    | (with_reducible show wpList _ _ _ (⟨some 75, _, _, _, _, _⟩ :: _) _ _
       refine wpList_lookup_valG (by rfl) 77 (.tmp 74) (.const (.string ⟨#[97, 116, 111, 109]⟩)) rfl _ _ _ Try.underlying77 Try.underlying9 rfl mb #[⟨.string ⟨#[118, 97, 114]⟩, .bool false, 0⟩, ⟨.string ⟨#[110, 111, 110, 118, 97, 114]⟩, .bool true, 1⟩, ⟨.string ⟨#[105, 110, 116, 101, 103, 101, 114]⟩, .bool false, 2⟩, ⟨.string ⟨#[97, 116, 111, 109]⟩, .bool true, 3⟩, ⟨.string ⟨#[97, 116, 111, 109, 105, 99]⟩, .bool true, 4⟩, ⟨.string ⟨#[99, 111, 109, 112, 111, 117, 110, 100]⟩, .bool false, 5⟩, ⟨.string ⟨#[99, 97, 108, 108, 97, 98, 108, 101]⟩, .bool true, 6⟩] 7 rfl HM7.out (3, .bool true) (by kernel_rfl) ?_)
    | (with_reducible show wpList _ _ _ (⟨some 81, _, _, _, _, _⟩ :: _) _ _
       refine wpList_lookup_valG (by rfl) 77 (.tmp 80) (.const (.string ⟨#[99, 97, 108, 108, 97, 98, 108, 101]⟩)) rfl _ _ _ Try.underlying77 Try.underlying9 rfl mb #[⟨.string ⟨#[118, 97, 114]⟩, .bool false, 0⟩, ⟨.string ⟨#[110, 111, 110, 118, 97, 114]⟩, .bool true, 1⟩, ⟨.string ⟨#[105, 110, 116, 101, 103, 101, 114]⟩, .bool false, 2⟩, ⟨.string ⟨#[97, 116, 111, 109]⟩, .bool true, 3⟩, ⟨.string ⟨#[97, 116, 111, 109, 105, 99]⟩, .bool true, 4⟩, ⟨.string ⟨#[99, 111, 109, 112, 111, 117, 110, 100]⟩, .bool false, 5⟩, ⟨.string ⟨#[99, 97, 108, 108, 97, 98, 108, 101]⟩, .bool true, 6⟩] 7 rfl HM7.out (6, .bool true) (by kernel_rfl) ?_)
    | (with_reducible show wpList _ _ _ (⟨some 83, _, _, _, _, _⟩ :: _) _ _
       refine wpList_lookup_valG (by rfl) 77 (.tmp 82) (.const (.string ⟨#[97, 116, 111, 109]⟩)) rfl _ _ _ Try.underlying77 Try.underlying9 rfl mb #[⟨.string ⟨#[118, 97, 114]⟩, .bool false, 0⟩, ⟨.string ⟨#[110, 111, 110, 118, 97, 114]⟩, .bool true, 1⟩, ⟨.string ⟨#[105, 110, 116, 101, 103, 101, 114]⟩, .bool false, 2⟩, ⟨.string ⟨#[97, 116, 111, 109]⟩, .bool true, 3⟩, ⟨.string ⟨#[97, 116, 111, 109, 105, 99]⟩, .bool true, 4⟩, ⟨.string ⟨#[99, 111, 109, 112, 111, 117, 110, 100]⟩, .bool false, 5⟩, ⟨.string ⟨#[99, 97, 108, 108, 97, 98, 108, 101]⟩, .bool true, 6⟩] 7 rfl HM7.out (3, .bool true) (by kernel_rfl) ?_)
    | (with_reducible show wpList _ _ _ (⟨some 86, _, _, _, _, _⟩ :: _) _ _
       refine wpList_lookup_valG (by rfl) 77 (.tmp 85) (.const (.string ⟨#[99, 111, 109, 112, 111, 117, 110, 100]⟩)) rfl _ _ _ Try.underlying77 Try.underlying9 rfl mb #[⟨.string ⟨#[118, 97, 114]⟩, .bool false, 0⟩, ⟨.string ⟨#[110, 111, 110, 118, 97, 114]⟩, .bool true, 1⟩, ⟨.string ⟨#[105, 110, 116, 101, 103, 101, 114]⟩, .bool false, 2⟩, ⟨.string ⟨#[97, 116, 111, 109]⟩, .bool true, 3⟩, ⟨.string ⟨#[97, 116, 111, 109, 105, 99]⟩, .bool true, 4⟩, ⟨.string ⟨#[99, 111, 109, 112, 111, 117, 110, 100]⟩, .bool false, 5⟩, ⟨.string ⟨#[99, 97, 108, 108, 97, 98, 108, 101]⟩, .bool true, 6⟩] 7 rfl HM7.out (5, .bool false) (by kernel_rfl) ?_))
  go_ret
  exact ⟨rfl, HB7.out⟩
set_option maxRecDepth 100000 in
set_option maxHeartbeats 16000000 in
theorem law_kinds4 (L : List Pt) (v1 : Value) (w : World) (h1 : PtSl w v1 L) (g1 : L.length ≤ 60) (hk : (goodT L).k = 4) : Calls Try.prog 8 #[v1] w (Says true w) := by
  obtain ⟨a1, c1, rfl, hc1, hm1⟩ := h1.form
  have H1 := Lib.hid h1
  have HK := Lib.hid hk
  have HC := Lib.hid (good_check17 L g1)
  clear h1 hk
  have d1 : decide (60 < (L.length : Int)) = false := by simp; omega
  have HSZ := Lib.hid (show (goodT L).size ≤ 1000000000 by have := goodT_size L; omega)
  go_enter Try.func8, Try.ntmps8
  go_wp2_with fail
  refine (l17_alive _).mono ?_
  rintro e1 w1 ⟨rfl, hb1⟩
  have HB := Lib.hid hb1
  clear hb1
  go_wp2_with fail
  refine (ref_great L _ _ (H1.out.below HB.out)).mono ?_
  rintro e2 w2 ⟨rfl, rfl⟩
  go_wp2_with fail
  refine (ref_good L _ _ (by omega) (H1.out.below HB.out)).mono ?_
  rintro e3 w3 ⟨v3, rfl, hi3, hb3⟩
  obtain ⟨b1, k1, rfl⟩ := hi3.form
  have HX := Lib.hid (hi3.lt.imp (P' := fun b => b < w3.heap.size) (fun b h => h.2) fun _ _ _ => rfl)
  have HB3 := Lib.hid (HB.out.trans (hb3.mono HB.out.size))
  clear hi3 hb3 HB H1
  generalize goodT L = T at *
  rw [HK.out]
  have hx4 : IsTm w3 (fun b => b < w3.heap.size) (.agg #[.int .i64 4, .int .i64 T.n, .string T.s, .slice b1 T.args.length k1]) T := by have := HX.out; rw [HK.out] at this; exact this
  have ha4 : Below w3.heap.size w3 (w3.alloc (.cells #[.int .i64 4, .int .i64 T.n, .string T.s, .slice b1 T.args.length k1] 49 (0, 0))) := (Below.refl _ _).alloc (Nat.le_refl _) _
  have hr4 := heap_alloc_new w3 (.cells #[.int .i64 4, .int .i64 T.n, .string T.s, .slice b1 T.args.length k1] 49 (0, 0))
  have HX4 := Lib.hid hx4
  have HA4 := Lib.hid ha4
  have HR4 := Lib.hid hr4
  clear hx4 ha4 hr4 HX
  go_wp2_with (with_reducible show wpList _ _ _ (⟨some 18, _, _, _, _, _⟩ :: _) _ _
               go_must (
                 refine wpList_map_start rfl 77 rfl _ (Below.refl _ _) ?_
                 intro mb w5 h5
                 have HF := Lib.hid h5
                 clear h5))
  have hw5 := HF.out.bel
  have HT0 := Lib.hid (HX4.out.below (HA4.out.trans (hw5.mono HA4.out.size)))
  have HB0 := Lib.hid (HB3.out.trans ((HA4.out.trans (hw5.mono HA4.out.size)).mono HB3.out.size))
  have HR0 := Lib.hid (row_on HR4.out hw5)
  have HM0 := Lib.hid HF.out.at_
  have hm0 : w3.heap.size < mb := by have := HF.out.low; simp at this; omega
  have hz0 : w.heap.size ≤ w3.heap.size := HB3.out.size
  clear hw5 HX4 HB3 HR4 HF HA4
  refine wp_loop_rounds 8 ?_
  rw [rounds_succ]
  obtain ⟨y0, y1, y2, y3⟩ := row4 HR0.out
  have hix : ∀ W : World, (Instr.index 78 (.agg #[.string ⟨#[118, 97, 114]⟩, .string ⟨#[110, 111, 110, 118, 97, 114]⟩, .string ⟨#[105, 110, 116, 101, 103, 101, 114]⟩, .string ⟨#[97, 116, 111, 109]⟩, .string ⟨#[97, 116, 111, 109, 105, 99]⟩, .string ⟨#[99, 111, 109, 112, 111, 117, 110, 100]⟩, .string ⟨#[99, 97, 108, 108, 97, 98, 108, 101]⟩]) (.int .i64 0)).run Try.prog W = .ok (.string ⟨#[118, 97, 114]⟩) W := fun W => by kernel_rfl
  go_wp2_with fail
  have hal := (Below.refl w5.heap.size w5).alloc (Nat.le_refl _) (.cells #[.int .i64 4, .int .i64 T.n, .string T.s, .slice b1 T.args.length k1] 49 (0, 0))
  have hrw : IsSl (w5.alloc (.cells #[.int .i64 4, .int .i64 T.n, .string T.s, .slice b1 T.args.length k1] 49 (0, 0))) AnyB (.slice (some ⟨w5.heap.size, 0, none⟩) 1 1) [T] := by
    have := row1 (x := T) (a := b1) (c := k1) (w := w5) (by rw [HK.out]; exact HT0.out.any)
    rw [HK.out] at this
    exact this
  have hdo := sh_Do_sort .k0 T AnyB _ _ _ hrw HSZ.out HC.out
  rw [HK.out] at hdo
  refine hdo.mono ?_
  rintro e u0 ⟨rfl, hbu⟩
  have hbx := hal.trans (hbu.mono hal.size)
  have hal2 := (Below.refl u0.heap.size u0).alloc (Nat.le_refl _) (.cells #[.bool false, .slice none 0 0, .slice none 0 0, .int .i64 0, .int .i64 0, .string ⟨#[]⟩, .slice none 0 0] 71 (0, 0))
  have hby := hbx.trans (hal2.mono hbx.size)
  have HRX := Lib.hid (row_on HR0.out hby)
  have HTX := Lib.hid (HT0.out.below hby)
  have HBX := Lib.hid (HB0.out.trans (hby.mono HB0.out.size))
  have HMX := Lib.hid (row_on HM0.out hby)
  have hzx := HB0.out.size
  show _
  clear y0 y1 y2 y3 hix hal hrw hdo hbu hbx hal2 hby HR0 HT0 HB0 HM0
  have hdb : (didB (false)) = .agg #[.bool false, .slice none 0 0, .slice none 0 0, .int .i64 0, .int .i64 0, .string ⟨#[]⟩, .slice none 0 0] := rfl
  simp only [didB]
  go_wp2_with (with_reducible show wpList _ _ _ (⟨none, .mapUpdate _ _ _ _, _, _, _, _⟩ :: _) _ _
               go_must (
                 refine wpList_mapUpdate_new rfl 77 (.tmp 44) (.tmp 45) (.tmp 47) rfl _ _ _ Try.underlying77 Try.underlying9 rfl mb #[] 0 rfl HMX.out (by kernel_rfl) ?_
                 intro wm1 hmu hgu
                 have HM1 := Lib.hid (show wm1.heap[mb]? = some (.map #[⟨.string ⟨#[118, 97, 114]⟩, .bool false, 0⟩] 1) from hmu)
                 have hlt4 := (Array.getElem?_eq_some_iff.1 HRX.out).1
                 have HR1 := Lib.hid ((hgu.block w3.heap.size hlt4 (fun e => by simp at e; omega)).trans HRX.out)
                 have HT1 := Lib.hid (HTX.out.imp (P' := fun b => b < w3.heap.size) (fun _ h => h) fun b hb hlt => hgu.block b hlt (fun e => by simp at e; omega))
                 have HB1 := Lib.hid (below_grown HBX.out hgu (by omega) HBX.out.size)
                 clear hmu hgu hlt4 HRX HTX HBX HMX))
  rw [rounds_succ]
  obtain ⟨y0, y1, y2, y3⟩ := row4 HR1.out
  have hix : ∀ W : World, (Instr.index 78 (.agg #[.string ⟨#[118, 97, 114]⟩, .string ⟨#[110, 111, 110, 118, 97, 114]⟩, .string ⟨#[105, 110, 116, 101, 103, 101, 114]⟩, .string ⟨#[97, 116, 111, 109]⟩, .string ⟨#[97, 116, 111, 109, 105, 99]⟩, .string ⟨#[99, 111, 109, 112, 111, 117, 110, 100]⟩, .string ⟨#[99, 97, 108, 108, 97, 98, 108, 101]⟩]) (.int .i64 1)).run Try.prog W = .ok (.string ⟨#[110, 111, 110, 118, 97, 114]⟩) W := fun W => by kernel_rfl
  go_wp2_with fail
  have hal := (Below.refl wm1.heap.size wm1).alloc (Nat.le_refl _) (.cells #[.int .i64 4, .int .i64 T.n, .string T.s, .slice b1 T.args.length k1] 49 (0, 0))
  have hrw : IsSl (wm1.alloc (.cells #[.int .i64 4, .int .i64 T.n, .string T.s, .slice b1 T.args.length k1] 49 (0, 0))) AnyB (.slice (some ⟨wm1.heap.size, 0, none⟩) 1 1) [T] := by
    have := row1 (x := T) (a := b1) (c := k1) (w := wm1) (by rw [HK.out]; exact HT1.out.any)
    rw [HK.out] at this
    exact this
  have hdo := sh_Do_sort .k1 T AnyB _ _ _ hrw HSZ.out HC.out
  rw [HK.out] at hdo
  refine hdo.mono ?_
  rintro e u1 ⟨rfl, hbu⟩
  have hbx := hal.trans (hbu.mono hal.size)
  have hal2 := (Below.refl u1.heap.size u1).alloc (Nat.le_refl _) (.cells #[.bool true, .slice none 0 0, .slice none 0 0, .int .i64 0, .int .i64 0, .string ⟨#[]⟩, .slice none 0 0] 71 (0, 0))
  have hby := hbx.trans (hal2.mono hbx.size)
  have HRX := Lib.hid (row_on HR1.out hby)
  have HTX := Lib.hid (HT1.out.below hby)
  have HBX := Lib.hid (HB1.out.trans (hby.mono HB1.out.size))
  have HMX := Lib.hid (row_on HM1.out hby)
  have hzx := HB1.out.size
  show _
  clear y0 y1 y2 y3 hix hal hrw hdo hbu hbx hal2 hby HR1 HT1 HB1 HM1
  have hdb : (didB (true)) = .agg #[.bool true, .slice none 0 0, .slice none 0 0, .int .i64 0, .int .i64 0, .string ⟨#[]⟩, .slice none 0 0] := rfl
  simp only [didB]
  go_wp2_with (with_reducible show wpList _ _ _ (⟨none, .mapUpdate _ _ _ _, _, _, _, _⟩ :: _) _ _
               go_must (
                 refine wpList_mapUpdate_new rfl 77 (.tmp 44) (.tmp 45) (.tmp 47) rfl _ _ _ Try.underlying77 Try.underlying9 rfl mb #[⟨.string ⟨#[118, 97, 114]⟩, .bool false, 0⟩] 1 rfl HMX.out (by kernel_rfl) ?_
                 intro wm2 hmu hgu
                 have HM2 := Lib.hid (show wm2.heap[mb]? = some (.map #[⟨.string ⟨#[118, 97, 114]⟩, .bool false, 0⟩, ⟨.string ⟨#[110, 111, 110, 118, 97, 114]⟩, .bool true, 1⟩] 2) from hmu)
                 have hlt4 := (Array.getElem?_eq_some_iff.1 HRX.out).1
                 have HR2 := Lib.hid ((hgu.block w3.heap.size hlt4 (fun e => by simp at e; omega)).trans HRX.out)
                 have HT2 := Lib.hid (HTX.out.imp (P' := fun b => b < w3.heap.size) (fun _ h => h) fun b hb hlt => hgu.block b hlt (fun e => by simp at e; omega))
                 have HB2 := Lib.hid (below_grown HBX.out hgu (by omega) HBX.out.size)
                 clear hmu hgu hlt4 HRX HTX HBX HMX))
  rw [rounds_succ]
  obtain ⟨y0, y1, y2, y3⟩ := row4 HR2.out
  have hix : ∀ W : World, (Instr.index 78 (.agg #[.string ⟨#[118, 97, 114]⟩, .string ⟨#[110, 111, 110, 118, 97, 114]⟩, .string ⟨#[105, 110, 116, 101, 103, 101, 114]⟩, .string ⟨#[97, 116, 111, 109]⟩, .string ⟨#[97, 116, 111, 109, 105, 99]⟩, .string ⟨#[99, 111, 109, 112, 111, 117, 110, 100]⟩, .string ⟨#[99, 97, 108, 108, 97, 98, 108, 101]⟩]) (.int .i64 2)).run Try.prog W = .ok (.string ⟨#[105, 110, 116, 101, 103, 101, 114]⟩) W := fun W => by kernel_rfl
  go_wp2_with fail
  have hal := (Below.refl wm2.heap.size wm2).alloc (Nat.le_refl _) (.cells #[.int .i64 4, .int .i64 T.n, .string T.s, .slice b1 T.args.length k1] 49 (0, 0))
  have hrw : IsSl (wm2.alloc (.cells #[.int .i64 4, .int .i64 T.n, .string T.s, .slice b1 T.args.length k1] 49 (0, 0))) AnyB (.slice (some ⟨wm2.heap.size, 0, none⟩) 1 1) [T] := by
    have := row1 (x := T) (a := b1) (c := k1) (w := wm2) (by rw [HK.out]; exact HT2.out.any)
    rw [HK.out] at this
    exact this
  have hdo := sh_Do_sort .k3 T AnyB _ _ _ hrw HSZ.out HC.out
  rw [HK.out] at hdo
  refine hdo.mono ?_
  rintro e u2 ⟨rfl, hbu⟩
  have hbx := hal.trans (hbu.mono hal.size)
  have hal2 := (Below.refl u2.heap.size u2).alloc (Nat.le_refl _) (.cells #[.bool false, .slice none 0 0, .slice none 0 0, .int .i64 0, .int .i64 0, .string ⟨#[]⟩, .slice none 0 0] 71 (0, 0))
  have hby := hbx.trans (hal2.mono hbx.size)
  have HRX := Lib.hid (row_on HR2.out hby)
  have HTX := Lib.hid (HT2.out.below hby)
  have HBX := Lib.hid (HB2.out.trans (hby.mono HB2.out.size))
  have HMX := Lib.hid (row_on HM2.out hby)
  have hzx := HB2.out.size
  show _
  clear y0 y1 y2 y3 hix hal hrw hdo hbu hbx hal2 hby HR2 HT2 HB2 HM2
  have hdb : (didB (false)) = .agg #[.bool false, .slice none 0 0, .slice none 0 0, .int .i64 0, .int .i64 0, .string ⟨#[]⟩, .slice none 0 0] := rfl
  simp only [didB]
  go_wp2_with (with_reducible show wpList _ _ _ (⟨none, .mapUpdate _ _ _ _, _, _, _, _⟩ :: _) _ _
               go_must (
                 refine wpList_mapUpdate_new rfl 77 (.tmp 44) (.tmp 45) (.tmp 47) rfl _ _ _ Try.underlying77 Try.underlying9 rfl mb #[⟨.string ⟨#[118, 97, 114]⟩, .bool false, 0⟩, ⟨.string ⟨#[110, 111, 110, 118, 97, 114]⟩, .bool true, 1⟩] 2 rfl HMX.out (by kernel_rfl) ?_
                 intro wm3 hmu hgu
                 have HM3 := Lib.hid (show wm3.heap[mb]? = some (.map #[⟨.string ⟨#[118, 97, 114]⟩, .bool false, 0⟩, ⟨.string ⟨#[110, 111, 110, 118, 97, 114]⟩, .bool true, 1⟩, ⟨.string ⟨#[105, 110, 116, 101, 103, 101, 114]⟩, .bool false, 2⟩] 3) from hmu)
                 have hlt4 := (Array.getElem?_eq_some_iff.1 HRX.out).1
                 have HR3 := Lib.hid ((hgu.block w3.heap.size hlt4 (fun e => by simp at e; omega)).trans HRX.out)
                 have HT3 := Lib.hid (HTX.out.imp (P' := fun b => b < w3.heap.size) (fun _ h => h) fun b hb hlt => hgu.block b hlt (fun e => by simp at e; omega))
                 have HB3 := Lib.hid (below_grown HBX.out hgu (by omega) HBX.out.size)
                 clear hmu hgu hlt4 HRX HTX HBX HMX))
  rw [rounds_succ]
  obtain ⟨y0, y1, y2, y3⟩ := row4 HR3.out
  have hix : ∀ W : World, (Instr.index 78 (.agg #[.string ⟨#[118, 97, 114]⟩, .string ⟨#[110, 111, 110, 118, 97, 114]⟩, .string ⟨#[105, 110, 116, 101, 103, 101, 114]⟩, .string ⟨#[97, 116, 111, 109]⟩, .string ⟨#[97, 116, 111, 109, 105, 99]⟩, .string ⟨#[99, 111, 109, 112, 111, 117, 110, 100]⟩, .string ⟨#[99, 97, 108, 108, 97, 98, 108, 101]⟩]) (.int .i64 3)).run Try.prog W = .ok (.string ⟨#[97, 116, 111, 109]⟩) W := fun W => by kernel_rfl
  go_wp2_with fail
  have hal := (Below.refl wm3.heap.size wm3).alloc (Nat.le_refl _) (.cells #[.int .i64 4, .int .i64 T.n, .string T.s, .slice b1 T.args.length k1] 49 (0, 0))
  have hrw : IsSl (wm3.alloc (.cells #[.int .i64 4, .int .i64 T.n, .string T.s, .slice b1 T.args.length k1] 49 (0, 0))) AnyB (.slice (some ⟨wm3.heap.size, 0, none⟩) 1 1) [T] := by
    have := row1 (x := T) (a := b1) (c := k1) (w := wm3) (by rw [HK.out]; exact HT3.out.any)
    rw [HK.out] at this
    exact this
  have hdo := sh_Do_sort .k2 T AnyB _ _ _ hrw HSZ.out HC.out
  rw [HK.out] at hdo
  refine hdo.mono ?_
  rintro e u3 ⟨rfl, hbu⟩
  have hbx := hal.trans (hbu.mono hal.size)
  have hal2 := (Below.refl u3.heap.size u3).alloc (Nat.le_refl _) (.cells #[.bool false, .slice none 0 0, .slice none 0 0, .int .i64 0, .int .i64 0, .string ⟨#[]⟩, .slice none 0 0] 71 (0, 0))
  have hby := hbx.trans (hal2.mono hbx.size)
  have HRX := Lib.hid (row_on HR3.out hby)
  have HTX := Lib.hid (HT3.out.below hby)
  have HBX := Lib.hid (HB3.out.trans (hby.mono HB3.out.size))
  have HMX := Lib.hid (row_on HM3.out hby)
  have hzx := HB3.out.size
  show _
  clear y0 y1 y2 y3 hix hal hrw hdo hbu hbx hal2 hby HR3 HT3 HB3 HM3
  have hdb : (didB (false)) = .agg #[.bool false, .slice none 0 0, .slice none 0 0, .int .i64 0, .int .i64 0, .string ⟨#[]⟩, .slice none 0 0] := rfl
  simp only [didB]
  go_wp2_with (with_reducible show wpList _ _ _ (⟨none, .mapUpdate _ _ _ _, _, _, _, _⟩ :: _) _ _
               go_must (
                 refine wpList_mapUpdate_new rfl 77 (.tmp 44) (.tmp 45) (.tmp 47) rfl _ _ _ Try.underlying77 Try.underlying9 rfl mb #[⟨.string ⟨#[118, 97, 114]⟩, .bool false, 0⟩, ⟨.string ⟨#[110, 111, 110, 118, 97, 114]⟩, .bool true, 1⟩, ⟨.string ⟨#[105, 110, 116, 101, 103, 101, 114]⟩, .bool false, 2⟩] 3 rfl HMX.out (by kernel_rfl) ?_
                 intro wm4 hmu hgu
                 have HM4 := Lib.hid (show wm4.heap[mb]? = some (.map #[⟨.string ⟨#[118, 97, 114]⟩, .bool false, 0⟩, ⟨.string ⟨#[110, 111, 110, 118, 97, 114]⟩, .bool true, 1⟩, ⟨.string ⟨#[105, 110, 116, 101, 103, 101, 114]⟩, .bool false, 2⟩, ⟨.string ⟨#[97, 116, 111, 109]⟩, .bool false, 3⟩] 4) from hmu)
                 have hlt4 := (Array.getElem?_eq_some_iff.1 HRX.out).1
                 have HR4 := Lib.hid ((hgu.block w3.heap.size hlt4 (fun e => by simp at e; omega)).trans HRX.out)
                 have HT4 := Lib.hid (HTX.out.imp (P' := fun b => b < w3.heap.size) (fun _ h => h) fun b hb hlt => hgu.block b hlt (fun e => by simp at e; omega))
                 have HB4 := Lib.hid (below_grown HBX.out hgu (by omega) HBX.out.size)
                 clear hmu hgu hlt4 HRX HTX HBX HMX))
  rw [rounds_succ]
  obtain ⟨y0, y1, y2, y3⟩ := row4 HR4.out
  have hix : ∀ W : World, (Instr.index 78 (.agg #[.string ⟨#[118, 97, 114]⟩, .string ⟨#[110, 111, 110, 118, 97, 114]⟩, .string ⟨#[105, 110, 116, 101, 103, 101, 114]⟩, .string ⟨#[97, 116, 111, 109]⟩, .string ⟨#[97, 116, 111, 109, 105, 99]⟩, .string ⟨#[99, 111, 109, 112, 111, 117, 110, 100]⟩, .string ⟨#[99, 97, 108, 108, 97, 98, 108, 101]⟩]) (.int .i64 4)).run Try.prog W = .ok (.string ⟨#[97, 116, 111, 109, 105, 99]⟩) W := fun W => by kernel_rfl
  go_wp2_with fail
  have hal := (Below.refl wm4.heap.size wm4).alloc (Nat.le_refl _) (.cells #[.int .i64 4, .int .i64 T.n, .string T.s, .slice b1 T.args.length k1] 49 (0, 0))
  have hrw : IsSl (wm4.alloc (.cells #[.int .i64 4, .int .i64 T.n, .string T.s, .slice b1 T.args.length k1] 49 (0, 0))) AnyB (.slice (some ⟨wm4.heap.size, 0, none⟩) 1 1) [T] := by
    have := row1 (x := T) (a := b1) (c := k1) (w := wm4) (by rw [HK.out]; exact HT4.out.any)
    rw [HK.out] at this
    exact this
  have hdo := sh_Do_sort .k4 T AnyB _ _ _ hrw HSZ.out HC.out
  rw [HK.out] at hdo
  refine hdo.mono ?_
  rintro e u4 ⟨rfl, hbu⟩
  have hbx := hal.trans (hbu.mono hal.size)
  have hal2 := (Below.refl u4.heap.size u4).alloc (Nat.le_refl _) (.cells #[.bool false, .slice none 0 0, .slice none 0 0, .int .i64 0, .int .i64 0, .string ⟨#[]⟩, .slice none 0 0] 71 (0, 0))
  have hby := hbx.trans (hal2.mono hbx.size)
  have HRX := Lib.hid (row_on HR4.out hby)
  have HTX := Lib.hid (HT4.out.below hby)
  have HBX := Lib.hid (HB4.out.trans (hby.mono HB4.out.size))
  have HMX := Lib.hid (row_on HM4.out hby)
  have hzx := HB4.out.size
  show _
  clear y0 y1 y2 y3 hix hal hrw hdo hbu hbx hal2 hby HR4 HT4 HB4 HM4
  have hdb : (didB (false)) = .agg #[.bool false, .slice none 0 0, .slice none 0 0, .int .i64 0, .int .i64 0, .string ⟨#[]⟩, .slice none 0 0] := rfl
  simp only [didB]
  go_wp2_with (with_reducible show wpList _ _ _ (⟨none, .mapUpdate _ _ _ _, _, _, _, _⟩ :: _) _ _
               go_must (
                 refine wpList_mapUpdate_new rfl 77 (.tmp 44) (.tmp 45) (.tmp 47) rfl _ _ _ Try.underlying77 Try.underlying9 rfl mb #[⟨.string ⟨#[118, 97, 114]⟩, .bool false, 0⟩, ⟨.string ⟨#[110, 111, 110, 118, 97, 114]⟩, .bool true, 1⟩, ⟨.string ⟨#[105, 110, 116, 101, 103, 101, 114]⟩, .bool false, 2⟩, ⟨.string ⟨#[97, 116, 111, 109]⟩, .bool false, 3⟩] 4 rfl HMX.out (by kernel_rfl) ?_
                 intro wm5 hmu hgu
                 have HM5 := Lib.hid (show wm5.heap[mb]? = some (.map #[⟨.string ⟨#[118, 97, 114]⟩, .bool false, 0⟩, ⟨.string ⟨#[110, 111, 110, 118, 97, 114]⟩, .bool true, 1⟩, ⟨.string ⟨#[105, 110, 116, 101, 103, 101, 114]⟩, .bool false, 2⟩, ⟨.string ⟨#[97, 116, 111, 109]⟩, .bool false, 3⟩, ⟨.string ⟨#[97, 116, 111, 109, 105, 99]⟩, .bool false, 4⟩] 5) from hmu)
                 have hlt4 := (Array.getElem?_eq_some_iff.1 HRX.out).1
                 have HR5 := Lib.hid ((hgu.block w3.heap.size hlt4 (fun e => by simp at e; omega)).trans HRX.out)
                 have HT5 := Lib.hid (HTX.out.imp (P' := fun b => b < w3.heap.size) (fun _ h => h) fun b hb hlt => hgu.block b hlt (fun e => by simp at e; omega))
                 have HB5 := Lib.hid (below_grown HBX.out hgu (by omega) HBX.out.size)
                 clear hmu hgu hlt4 HRX HTX HBX HMX))
  rw [rounds_succ]
  obtain ⟨y0, y1, y2, y3⟩ := row4 HR5.out
  have hix : ∀ W : World, (Instr.index 78 (.agg #[.string ⟨#[118, 97, 114]⟩, .string ⟨#[110, 111, 110, 118, 97, 114]⟩, .string ⟨#[105, 110, 116, 101, 103, 101, 114]⟩, .string ⟨#[97, 116, 111, 109]⟩, .string ⟨#[97, 116, 111, 109, 105, 99]⟩, .string ⟨#[99, 111, 109, 112, 111, 117, 110, 100]⟩, .string ⟨#[99, 97, 108, 108, 97, 98, 108, 101]⟩]) (.int .i64 5)).run Try.prog W = .ok (.string ⟨#[99, 111, 109, 112, 111, 117, 110, 100]⟩) W := fun W => by kernel_rfl
  go_wp2_with fail
  have hal := (Below.refl wm5.heap.size wm5).alloc (Nat.le_refl _) (.cells #[.int .i64 4, .int .i64 T.n, .string T.s, .slice b1 T.args.length k1] 49 (0, 0))
  have hrw : IsSl (wm5.alloc (.cells #[.int .i64 4, .int .i64 T.n, .string T.s, .slice b1 T.args.length k1] 49 (0, 0))) AnyB (.slice (some ⟨wm5.heap.size, 0, none⟩) 1 1) [T] := by
    have := row1 (x := T) (a := b1) (c := k1) (w := wm5) (by rw [HK.out]; exact HT5.out.any)
    rw [HK.out] at this
    exact this
  have hdo := sh_Do_sort .k5 T AnyB _ _ _ hrw HSZ.out HC.out
  rw [HK.out] at hdo
  refine hdo.mono ?_
  rintro e u5 ⟨rfl, hbu⟩
  have hbx := hal.trans (hbu.mono hal.size)
  have hal2 := (Below.refl u5.heap.size u5).alloc (Nat.le_refl _) (.cells #[.bool true, .slice none 0 0, .slice none 0 0, .int .i64 0, .int .i64 0, .string ⟨#[]⟩, .slice none 0 0] 71 (0, 0))
  have hby := hbx.trans (hal2.mono hbx.size)
  have HRX := Lib.hid (row_on HR5.out hby)
  have HTX := Lib.hid (HT5.out.below hby)
  have HBX := Lib.hid (HB5.out.trans (hby.mono HB5.out.size))
  have HMX := Lib.hid (row_on HM5.out hby)
  have hzx := HB5.out.size
  show _
  clear y0 y1 y2 y3 hix hal hrw hdo hbu hbx hal2 hby HR5 HT5 HB5 HM5
  have hdb : (didB (true)) = .agg #[.bool true, .slice none 0 0, .slice none 0 0, .int .i64 0, .int .i64 0, .string ⟨#[]⟩, .slice none 0 0] := rfl
  simp only [didB]
  go_wp2_with (with_reducible show wpList _ _ _ (⟨none, .mapUpdate _ _ _ _, _, _, _, _⟩ :: _) _ _
               go_must (
                 refine wpList_mapUpdate_new rfl 77 (.tmp 44) (.tmp 45) (.tmp 47) rfl _ _ _ Try.underlying77 Try.underlying9 rfl mb #[⟨.string ⟨#[118, 97, 114]⟩, .bool false, 0⟩, ⟨.string ⟨#[110, 111, 110, 118, 97, 114]⟩, .bool true, 1⟩, ⟨.string ⟨#[105, 110, 116, 101, 103, 101, 114]⟩, .bool false, 2⟩, ⟨.string ⟨#[97, 116, 111, 109]⟩, .bool false, 3⟩, ⟨.string ⟨#[97, 116, 111, 109, 105, 99]⟩, .bool false, 4⟩] 5 rfl HMX.out (by kernel_rfl) ?_
                 intro wm6 hmu hgu
                 have HM6 := Lib.hid (show wm6.heap[mb]? = some (.map #[⟨.string ⟨#[118, 97, 114]⟩, .bool false, 0⟩, ⟨.string ⟨#[110, 111, 110, 118, 97, 114]⟩, .bool true, 1⟩, ⟨.string ⟨#[105, 110, 116, 101, 103, 101, 114]⟩, .bool false, 2⟩, ⟨.string ⟨#[97, 116, 111, 109]⟩, .bool false, 3⟩, ⟨.string ⟨#[97, 116, 111, 109, 105, 99]⟩, .bool false, 4⟩, ⟨.string ⟨#[99, 111, 109, 112, 111, 117, 110, 100]⟩, .bool true, 5⟩] 6) from hmu)
                 have hlt4 := (Array.getElem?_eq_some_iff.1 HRX.out).1
                 have HR6 := Lib.hid ((hgu.block w3.heap.size hlt4 (fun e => by simp at e; omega)).trans HRX.out)
                 have HT6 := Lib.hid (HTX.out.imp (P' := fun b => b < w3.heap.size) (fun _ h => h) fun b hb hlt => hgu.block b hlt (fun e => by simp at e; omega))
                 have HB6 := Lib.hid (below_grown HBX.out hgu (by omega) HBX.out.size)
                 clear hmu hgu hlt4 HRX HTX HBX HMX))
  rw [rounds_succ]
  obtain ⟨y0, y1, y2, y3⟩ := row4 HR6.out
  have hix : ∀ W : World, (Instr.index 78 (.agg #[.string ⟨#[118, 97, 114]⟩, .string ⟨#[110, 111, 110, 118, 97, 114]⟩, .string ⟨#[105, 110, 116, 101, 103, 101, 114]⟩, .string ⟨#[97, 116, 111, 109]⟩, .string ⟨#[97, 116, 111, 109, 105, 99]⟩, .string ⟨#[99, 111, 109, 112, 111, 117, 110, 100]⟩, .string ⟨#[99, 97, 108, 108, 97, 98, 108, 101]⟩]) (.int .i64 6)).run Try.prog W = .ok (.string ⟨#[99, 97, 108, 108, 97, 98, 108, 101]⟩) W := fun W => by kernel_rfl
  go_wp2_with fail
  have hal := (Below.refl wm6.heap.size wm6).alloc (Nat.le_refl _) (.cells #[.int .i64 4, .int .i64 T.n, .string T.s, .slice b1 T.args.length k1] 49 (0, 0))
  have hrw : IsSl (wm6.alloc (.cells #[.int .i64 4, .int .i64 T.n, .string T.s, .slice b1 T.args.length k1] 49 (0, 0))) AnyB (.slice (some ⟨wm6.heap.size, 0, none⟩) 1 1) [T] := by
    have := row1 (x := T) (a := b1) (c := k1) (w := wm6) (by rw [HK.out]; exact HT6.out.any)
    rw [HK.out] at this
    exact this
  have hdo := sh_Do_sort .k6 T AnyB _ _ _ hrw HSZ.out HC.out
  rw [HK.out] at hdo
  refine hdo.mono ?_
  rintro e u6 ⟨rfl, hbu⟩
  have hbx := hal.trans (hbu.mono hal.size)
  have hal2 := (Below.refl u6.heap.size u6).alloc (Nat.le_refl _) (.cells #[.bool true, .slice none 0 0, .slice none 0 0, .int .i64 0, .int .i64 0, .string ⟨#[]⟩, .slice none 0 0] 71 (0, 0))
  have hby := hbx.trans (hal2.mono hbx.size)
  have HRX := Lib.hid (row_on HR6.out hby)
  have HTX := Lib.hid (HT6.out.below hby)
  have HBX := Lib.hid (HB6.out.trans (hby.mono HB6.out.size))
  have HMX := Lib.hid (row_on HM6.out hby)
  have hzx := HB6.out.size
  show _
  clear y0 y1 y2 y3 hix hal hrw hdo hbu hbx hal2 hby HR6 HT6 HB6 HM6
  have hdb : (didB (true)) = .agg #[.bool true, .slice none 0 0, .slice none 0 0, .int .i64 0, .int .i64 0, .string ⟨#[]⟩, .slice none 0 0] := rfl
  simp only [didB]
  go_wp2_with (with_reducible show wpList _ _ _ (⟨none, .mapUpdate _ _ _ _, _, _, _, _⟩ :: _) _ _
               go_must (
                 refine wpList_mapUpdate_new rfl 77 (.tmp 44) (.tmp 45) (.tmp 47) rfl _ _ _ Try.underlying77 Try.underlying9 rfl mb #[⟨.string ⟨#[118, 97, 114]⟩, .bool false, 0⟩, ⟨.string ⟨#[110, 111, 110, 118, 97, 114]⟩, .bool true, 1⟩, ⟨.string ⟨#[105, 110, 116, 101, 103, 101, 114]⟩, .bool false, 2⟩, ⟨.string ⟨#[97, 116, 111, 109]⟩, .bool false, 3⟩, ⟨.string ⟨#[97, 116, 111, 109, 105, 99]⟩, .bool false, 4⟩, ⟨.string ⟨#[99, 111, 109, 112, 111, 117, 110, 100]⟩, .bool true, 5⟩] 6 rfl HMX.out (by kernel_rfl) ?_
                 intro wm7 hmu hgu
                 have HM7 := Lib.hid (show wm7.heap[mb]? = some (.map #[⟨.string ⟨#[118, 97, 114]⟩, .bool false, 0⟩, ⟨.string ⟨#[110, 111, 110, 118, 97, 114]⟩, .bool true, 1⟩, ⟨.string ⟨#[105, 110, 116, 101, 103, 101, 114]⟩, .bool false, 2⟩, ⟨.string ⟨#[97, 116, 111, 109]⟩, .bool false, 3⟩, ⟨.string ⟨#[97, 116, 111, 109, 105, 99]⟩, .bool false, 4⟩, ⟨.string ⟨#[99, 111, 109, 112, 111, 117, 110, 100]⟩, .bool true, 5⟩, ⟨.string ⟨#[99, 97, 108, 108, 97, 98, 108, 101]⟩, .bool true, 6⟩] 7) from hmu)
                 have hlt4 := (Array.getElem?_eq_some_iff.1 HRX.out).1
                 have HR7 := Lib.hid ((hgu.block w3.heap.size hlt4 (fun e => by simp at e; omega)).trans HRX.out)
                 have HT7 := Lib.hid (HTX.out.imp (P' := fun b => b < w3.heap.size) (fun _ h => h) fun b hb hlt => hgu.block b hlt (fun e => by simp at e; omega))
                 have HB7 := Lib.hid (below_grown HBX.out hgu (by omega) HBX.out.size)
                 clear hmu hgu hlt4 HRX HTX HBX HMX))
  rw [rounds_succ]
  go_wp2
  refine wp_loop_rounds 5 ?_
  rw [rounds_succ]
  have hix : ∀ W : World, (Instr.index 79 (.agg #[.string ⟨#[118, 97, 114]⟩, .string ⟨#[105, 110, 116, 101, 103, 101, 114]⟩, .string ⟨#[97, 116, 111, 109]⟩, .string ⟨#[99, 111, 109, 112, 111, 117, 110, 100]⟩]) (.int .i64 0)).run Try.prog W = .ok (.string ⟨#[118, 97, 114]⟩) W := fun W => by kernel_rfl
  go_wp2_with (with_reducible show wpList _ _ _ (⟨some 55, _, _, _, _, _⟩ :: _) _ _
               go_must (
                 refine wpList_lookup_val rfl 77 (.tmp 53) (.tmp 54) rfl _ _ _ Try.underlying77 Try.underlying9 rfl mb #[⟨.string ⟨#[118, 97, 114]⟩, .bool false, 0⟩, ⟨.string ⟨#[110, 111, 110, 118, 97, 114]⟩, .bool true, 1⟩, ⟨.string ⟨#[105, 110, 116, 101, 103, 101, 114]⟩, .bool false, 2⟩, ⟨.string ⟨#[97, 116, 111, 109]⟩, .bool false, 3⟩, ⟨.string ⟨#[97, 116, 111, 109, 105, 99]⟩, .bool false, 4⟩, ⟨.string ⟨#[99, 111, 109, 112, 111, 117, 110, 100]⟩, .bool true, 5⟩, ⟨.string ⟨#[99, 97, 108, 108, 97, 98, 108, 101]⟩, .bool true, 6⟩] 7 rfl HM7.out (0, .bool false) (by kernel_rfl) ?_))
  clear hix
  rw [rounds_succ]
  have hix : ∀ W : World, (Instr.index 79 (.agg #[.string ⟨#[118, 97, 114]⟩, .string ⟨#[105, 110, 116, 101, 103, 101, 114]⟩, .string ⟨#[97, 116, 111, 109]⟩, .string ⟨#[99, 111, 109, 112, 111, 117, 110, 100]⟩]) (.int .i64 1)).run Try.prog W = .ok (.string ⟨#[105, 110, 116, 101, 103, 101, 114]⟩) W := fun W => by kernel_rfl
  go_wp2_with (with_reducible show wpList _ _ _ (⟨some 55, _, _, _, _, _⟩ :: _) _ _
               go_must (
                 refine wpList_lookup_val rfl 77 (.tmp 53) (.tmp 54) rfl _ _ _ Try.underlying77 Try.underlying9 rfl mb #[⟨.string ⟨#[118, 97, 114]⟩, .bool false, 0⟩, ⟨.string ⟨#[110, 111, 110, 118, 97, 114]⟩, .bool true, 1⟩, ⟨.string ⟨#[105, 110, 116, 101, 103, 101, 114]⟩, .bool false, 2⟩, ⟨.string ⟨#[97, 116, 111, 109]⟩, .bool false, 3⟩, ⟨.string ⟨#[97, 116, 111, 109, 105, 99]⟩, .bool false, 4⟩, ⟨.string ⟨#[99, 111, 109, 112, 111, 117, 110, 100]⟩, .bool true, 5⟩, ⟨.string ⟨#[99, 97, 108, 108, 97, 98, 108, 101]⟩, .bool true, 6⟩] 7 rfl HM7.out (2, .bool false) (by kernel_rfl) ?_))
  clear hix
  rw [rounds_succ]
  have hix : ∀ W : World, (Instr.index 79 (.agg #[.string ⟨#[118, 97, 114]⟩, .string ⟨#[105, 110, 116, 101, 103, 101, 114]⟩, .string ⟨#[97, 116, 111, 109]⟩, .string ⟨#[99, 111, 109, 112, 111, 117, 110, 100]⟩]) (.int .i64 2)).run Try.prog W = .ok (.string ⟨#[97, 116, 111, 109]⟩) W := fun W => by kernel_rfl
  go_wp2_with (with_reducible show wpList _ _ _ (⟨some 55, _, _, _, _, _⟩ :: _) _ _
               go_must (
                 refine wpList_lookup_val rfl 77 (.tmp 53) (.tmp 54) rfl _ _ _ Try.underlying77 Try.underlying9 rfl mb #[⟨.string ⟨#[118, 97, 114]⟩, .bool false, 0⟩, ⟨.string ⟨#[110, 111, 110, 118, 97, 114]⟩, .bool true, 1⟩, ⟨.string ⟨#[105, 110, 116, 101, 103, 101, 114]⟩, .bool false, 2⟩, ⟨.string ⟨#[97, 116, 111, 109]⟩, .bool false, 3⟩, ⟨.string ⟨#[97, 116, 111, 109, 105, 99]⟩, .bool false, 4⟩, ⟨.string ⟨#[99, 111, 109, 112, 111, 117, 110, 100]⟩, .bool true, 5⟩, ⟨.string ⟨#[99, 97, 108, 108, 97, 98, 108, 101]⟩, .bool true, 6⟩] 7 rfl HM7.out (3, .bool false) (by kernel_rfl) ?_))
  clear hix
  rw [rounds_succ]
  have hix : ∀ W : World, (Instr.index 79 (.agg #[.string ⟨#[118, 97, 114]⟩, .string ⟨#[105, 110, 116, 101, 103, 101, 114]⟩, .string ⟨#[97, 116, 111, 109]⟩, .string ⟨#[99, 111, 109, 112, 111, 117, 110, 100]⟩]) (.int .i64 3)).run Try.prog W = .ok (.string ⟨#[99, 111, 109, 112, 111, 117, 110, 100]⟩) W := fun W => by kernel_rfl
  go_wp2_with (with_reducible show wpList _ _ _ (⟨some 55, _, _, _, _, _⟩ :: _) _ _
               go_must (
                 refine wpList_lookup_val rfl 77 (.tmp 53) (.tmp 54) rfl _ _ _ Try.underlying77 Try.underlying9 rfl mb #[⟨.string ⟨#[118, 97, 114]⟩, .bool false, 0⟩, ⟨.string ⟨#[110, 111, 110, 118, 97, 114]⟩, .bool true, 1⟩, ⟨.string ⟨#[105, 110, 116, 101, 103, 101, 114]⟩, .bool false, 2⟩, ⟨.string ⟨#[97, 116, 111, 109]⟩, .bool false, 3⟩, ⟨.string ⟨#[97, 116, 111, 109, 105, 99]⟩, .bool false, 4⟩, ⟨.string ⟨#[99, 111, 109, 112, 111, 117, 110, 100]⟩, .bool true, 5⟩, ⟨.string ⟨#[99, 97, 108, 108, 97, 98, 108, 101]⟩, .bool true, 6⟩] 7 rfl HM7.out (5, .bool true) (by kernel_rfl) ?_))
  clear hix
  rw [rounds_succ]
  go_wp2_with (first
    | (with_reducible show wpList _ _ _ (⟨some 63, _, _, _, _, _⟩ :: _) _ _
       refine wpList_lookup_valG (by rfl) 77 (.tmp 62) (.const (.string ⟨#[110, 111, 110, 118, 97, 114]⟩)) rfl _ _ _ Try.underlying77 Try.underlying9 rfl mb #[⟨.string ⟨#[118, 97, 114]⟩, .bool false, 0⟩, ⟨.string ⟨#[110, 111, 110, 118, 97, 114]⟩, .bool true, 1⟩, ⟨.string ⟨#[105, 110, 116, 101, 103, 101, 114]⟩, .bool false, 2⟩, ⟨.string ⟨#[97, 116, 111, 109]⟩, .bool false, 3⟩, ⟨.string ⟨#[97, 116, 111, 109, 105, 99]⟩, .bool false, 4⟩, ⟨.string ⟨#[99, 111, 109, 112, 111, 117, 110, 100]⟩, .bool true, 5⟩, ⟨.string ⟨#[99, 97, 108, 108, 97, 98, 108, 101]⟩, .bool true, 6⟩] 7 rfl HM7.out (1, .bool true) (by kernel_rfl) ?_)
    | (with_reducible show wpList _ _ _ (⟨some 65, _, _, _, _, _⟩ :: _) _ _
       refine wpList_lookup_valG (by rfl) 77 (.tmp 64) (.const (.string ⟨#[118, 97, 114]⟩)) rfl _ _ _ Try.underlying77 Try.underlying9 rfl mb #[⟨.string ⟨#[118, 97, 114]⟩, .bool false, 0⟩, ⟨.string ⟨#[110, 111, 110, 118, 97, 114]⟩, .bool true, 1⟩, ⟨.string ⟨#[105, 110, 116, 101, 103, 101, 114]⟩, .bool false, 2⟩, ⟨.string ⟨#[97, 116, 111, 109]⟩, .bool false, 3⟩, ⟨.string ⟨#[97, 116, 111, 109, 105, 99]⟩, .bool false, 4⟩, ⟨.string ⟨#[99, 111, 109, 112, 111, 117, 110, 100]⟩, .bool true, 5⟩, ⟨.string ⟨#[99, 97, 108, 108, 97, 98, 108, 101]⟩, .bool true, 6⟩] 7 rfl HM7.out (0, .bool false) (by kernel_rfl) ?_)
    | (with_reducible show wpList _ _ _ (⟨some 70, _, _, _, _, _⟩ :: _) _ _
       refine wpList_lookup_valG (by rfl) 77 (.tmp 69) (.const (.string ⟨#[97, 116, 111, 109, 105, 99]⟩)) rfl _ _ _ Try.underlying77 Try.underlying9 rfl mb #[⟨.string ⟨#[118, 97, 114]⟩, .bool false, 0⟩, ⟨.string ⟨#[110, 111, 110, 118, 97, 114]⟩, .bool true, 1⟩, ⟨.string ⟨#[105, 110, 116, 101, 103, 101, 114]⟩, .bool false, 2⟩, ⟨.string ⟨#[97, 116, 111, 109]⟩, .bool false, 3⟩, ⟨.string ⟨#[97, 116, 111, 109, 105, 99]⟩, .bool false, 4⟩, ⟨.string ⟨#[99, 111, 109, 112, 111, 117, 110, 100]⟩, .bool true, 5⟩, ⟨.string ⟨#[99, 97, 108, 108, 97, 98, 108, 101]⟩, .bool true, 6⟩] 7 rfl HM7.out (4, .bool false) (by kernel_rfl) ?_)
    | (with_reducible show wpList _ _ _ (⟨some 72, _, _, _, _, _⟩ :: _) _ _
       refine wpList_lookup_valG (by rfl) 77 (.tmp 71) (.const (.string ⟨#[105, 110, 116, 101, 103, 101, 114]⟩)) rfl _ _ _ Try.underlying77 Try.underlying9 rfl mb #[⟨.string ⟨#[118, 97, 114]⟩, .bool false, 0⟩, ⟨.string ⟨#[110, 111, 110, 118, 97, 114]⟩, .bool true, 1⟩, ⟨.string ⟨#[105, 110, 116, 101, 103, 101, 114]⟩, .bool false, 2⟩, ⟨.string ⟨#[97, 116, 111, 109]⟩, .bool false, 3⟩, ⟨.string ⟨#[97, 116, 111, 109, 105, 99]⟩, .bool false, 4⟩, ⟨.string ⟨#[99, 111, 109, 112, 111, 117, 110, 100]⟩, .bool true, 5⟩, ⟨.string ⟨#[99, 97, 108, 108, 97, 98, 108, 101]⟩, .bool true, 6⟩] 7 rfl HM7.out (2, .bool false) (by kernel_rfl) ?_)
    | (with_reducible show wpList _ _ _ (⟨some 75, _, _, _, _, _⟩ :: _) _ _
       refine wpList_lookup_valG (by rfl) 77 (.tmp 74) (.const (.string ⟨#[97, 116, 111, 109]⟩)) rfl _ _ _ Try.underlying77 Try.underlying9 rfl mb #[⟨.string ⟨#[118, 97, 114]⟩, .bool false, 0⟩, ⟨.string ⟨#[110, 111, 110, 118, 97, 114]⟩, .bool true, 1⟩, ⟨.string ⟨#[105, 110, 116, 101, 103, 101, 114]⟩, .bool false, 2⟩, ⟨.string ⟨#[97, 116, 111, 109]⟩, .bool false, 3⟩, ⟨.string ⟨#[97, 116, 111, 109, 105, 99]⟩, .bool false, 4⟩, ⟨.string ⟨#[99, 111, 109, 112, 111, 117, 110, 100]⟩, .bool true, 5⟩, ⟨.string ⟨#[99, 97, 108, 108, 97, 98, 108, 101]⟩, .bool true, 6⟩] 7 rfl HM7.out (3, .bool false) (by kernel_rfl) ?_)
    | (with_reducible show wpList _ _ _ (⟨some 81, _, _, _, _, _⟩ :: _) _ _
       refine wpList_lookup_valG (by rfl) 77 (.tmp 80) (.const (.string ⟨#[99, 97, 108, 108, 97, 98, 108, 101]⟩)) rfl _ _ _ Try.underlying77 Try.underlying9 rfl mb #[⟨.string ⟨#[118, 97, 114]⟩, .bool false, 0⟩, ⟨.string ⟨#[110, 111, 110, 118, 97, 114]⟩, .bool true, 1⟩, ⟨.string ⟨#[105, 110, 116, 101, 103, 101, 114]⟩, .bool false, 2⟩, ⟨.string ⟨#[97, 116, 111, 109]⟩, .bool false, 3⟩, ⟨.string ⟨#[97, 116, 111, 109, 105, 99]⟩, .bool false, 4⟩, ⟨.string ⟨#[99, 111, 109, 112, 111, 117, 110, 100]⟩, .bool true, 5⟩, ⟨.string ⟨#[99, 97, 108, 108, 97, 98, 108, 101]⟩, .bool true, 6⟩] 7 rfl HM7.out (6, .bool true) (by kernel_rfl) ?_)
    | (with_reducible show wpList _ _ _ (⟨some 83, _, _, _, _, _⟩ :: _) _ _
       refine wpList_lookup_valG (by rfl) 77 (.tmp 82) (.const (.string ⟨#[97, 116, 111, 109]⟩)) rfl _ _ _ Try.underlying77 Try.underlying9 rfl mb #[⟨.string ⟨#[118, 97, 114]⟩, .bool false, 0⟩, ⟨.string ⟨#[110, 111, 110, 118, 97, 114]⟩, .bool true, 1⟩, ⟨.string ⟨#[105, 110, 116, 101, 103, 101, 114]⟩, .bool false, 2⟩, ⟨.string ⟨#[97, 116, 111, 109]⟩, .bool false, 3⟩, ⟨.string ⟨#[97, 116, 111, 109, 105, 99]⟩, .bool false, 4⟩, ⟨.string ⟨#[99, 111, 109, 112, 111, 117, 110, 100]⟩, .bool true, 5⟩, ⟨.string ⟨#[99, 97, 108, 108, 97, 98, 108, 101]⟩, .bool true, 6⟩] 7 rfl HM7.out (3, .bool false) (by kernel_rfl) ?_)
    | (with_reducible show wpList _ _ _ (⟨some 86, _, _, _, _, _⟩ :: _) _ _
       refine wpList_lookup_valG (by rfl) 77 (.tmp 85) (.const (.string ⟨#[99, 111, 109, 112, 111, 117, 110, 100]⟩)) rfl _ _ _ Try.underlying77 Try.underlying9 rfl mb #[⟨.string ⟨#[118, 97, 114]⟩, .bool false, 0⟩, ⟨.string ⟨#[110, 111, 110, 118, 97, 114]⟩, .bool true, 1⟩, ⟨.string ⟨#[105, 110, 116, 101, 103, 101, 114]⟩, .bool false, 2⟩, ⟨.string ⟨#[97, 116, 111, 109]⟩, .bool false, 3⟩, ⟨.string ⟨#[97, 116, 111, 109, 105, 99]⟩, .bool false, 4⟩, ⟨.string ⟨#[99, 111, 109, 112, 111, 117, 110, 100]⟩, .bool true, 5⟩, ⟨.string ⟨#[99, 97, 108, 108, 97, 98, 108, 101]⟩, .bool true, 6⟩] 7 rfl HM7.out (5, .bool true) (by kernel_rfl) ?_))
  go_ret
  exact ⟨rfl, HB7.out⟩
set_option maxRecDepth 100000 in
theorem law_kinds (L : List Pt) (v1 : Value) (w : World) (h1 : PtSl w v1 L) : Calls Try.prog 8 #[v1] w (Says true w) := by
  by_cases g1 : 60 < L.length
  · obtain ⟨a1, c1, rfl, hc1, hm1⟩ := h1.form
    have H1 := Lib.hid h1
    clear h1
    have d1 : decide (60 < (L.length : Int)) = true := by simp; omega
    go_enter Try.func8, Try.ntmps8
    go_wp2_with (first
      | (go_at_call 27; refine (l17_alive _).mono ?_; rintro e1 w1 ⟨rfl, hb1⟩; have HB := Lib.hid hb1; clear hb1)
      | (refine (ref_great L _ _ (H1.out.below HB.out)).mono ?_; rintro e2 w2 ⟨rfl, rfl⟩))
    go_ret
    exact ⟨rfl, HB.out⟩
  · rcases may_kind (good_may L) with h | h | h | h
    · exact law_kinds1 L v1 w h1 (by omega) h
    · exact law_kinds2 L v1 w h1 (by omega) h
    · exact law_kinds3 L v1 w h1 (by omega) h
    · exact law_kinds4 L v1 w h1 (by omega) h
end Go.Proofs.Ytkhchmgdaolojaa.Tms
