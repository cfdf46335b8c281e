
/-
  goal.Clause: its end, where a body is of another type.
  goal.Clause: its end, where all is well.
  goal.Clause: its end, where a body may not be.
-/
import Derived.Test.YtmlceamcpelklaaGcl
namespace Go.Proofs.Ytmlceamcpelklaa.Tms
open Go Go.RowKit Go.Proofs.Ytmlceamcpelklaa.Reg
set_option linter.unusedVariables false

set_option maxRecDepth 100000 in
set_option maxHeartbeats 16000000 in
theorem cls_13 {P : Nat → Prop} {w w5 : World} {t H Bd B : Tm} {a aH aB a5 : Option Addr} {cap cH cB c5 b6 : Nat} {e : Int} {Qf : Ending → World → Prop} (x0 x8 x9 x10 x11 x12 x13 x14 x15 x16 x17 x18 x19 x20 x21 x22 x23 x24 x25 x26 x27 x28 x29 x30 x31 x32 x33 x34 x35 x36 x37 x38 x39 x40 x41 x42 x43 x44 x45 x46 x47 x48 x49 x50 x51 x52 x53 x54 x55 x56 x57 x58 x59 x60 x61 x62 x63 x64 x65 x66 x67 x68 x69 x70 x71 : Value)
    (hC : ClsCtx w t a cap zeroC #[.int .i64 B.k, .int .i64 B.n, .string B.s, .slice a5 B.args.length c5] zeroC w5) (hb6 : w.heap.size + 4 ≤ b6) (hz5 : b6 + 2 ≤ w5.heap.size) (h6 : w5.heap[b6]? = some (rowT H aH cH)) (h7 : w5.heap[b6 + 1]? = some (rowT Bd aB cB)) (hH : IsTm w5 (fun b => P b ∧ b < w.heap.size) (aggT H aH cH) H) (hB : IsTm w5 (fun b => P b ∧ b < w.heap.size) (aggT Bd aB cB) Bd)
    (hV : IsTm w5 (fun b => (P b ∧ b < w.heap.size) ∨ b6 ≤ b) (aggT B a5 c5) B) (hsH : H.size ≤ 100000000) (hsB : Bd.size ≤ 100000000) (h13 : e = 13)
    (hrt : clsT t = if e = 13 then (zeroTm, zeroTm, 13, Bd) else if e ≠ 0 then (zeroTm, zeroTm, e, zeroTm) else (H, B, 0, zeroTm)) :
    Code.wp Try.prog (clsRest Try.f16) (bodyPost Try.prog Try.f16 (ClsPost P (clsT t) w)) ⟨#[x0, .pointer (some ⟨w.heap.size, 0, none⟩), .pointer (some ⟨w.heap.size + 1, 0, none⟩), .pointer (some ⟨w.heap.size + 2, 0, none⟩), .int .i64 e, .pointer (some ⟨w.heap.size + 3, 0, none⟩), .pointer (some ⟨b6, 0, none⟩), .pointer (some ⟨b6 + 1, 0, none⟩), x8, x9, x10, x11, x12, x13, x14, x15, x16, x17, x18, x19, x20, x21, x22, x23, x24, x25, x26, x27, x28, x29, x30, x31, x32, x33, x34, x35, x36, x37, x38, x39, x40, x41, x42, x43, x44, x45, x46, x47, x48, x49, x50, x51, x52, x53, x54, x55, x56, x57, x58, x59, x60, x61, x62, x63, x64, x65, x66, x67, x68, x69, x70, x71], []⟩ w5 := by
  have C := Lib.hid hC
  have R65 := Lib.hid h6
  have R75 := Lib.hid h7
  have IH5 := Lib.hid hH
  have IB5 := Lib.hid hB
  have HI5 := Lib.hid hV
  have HRT := Lib.hid hrt
  have HZ5 := Lib.hid hz5
  clear hC h6 h7 hH hB hV hrt
  subst h13
  have HRV := Lib.hid (show clsT t = (zeroTm, zeroTm, 13, Bd) by rw [HRT.out, if_pos rfl])
  have f13 : ((13 : Int) == 13) = true := by decide
  have f0 : ((13 : Int) != 0) = true := by decide
  obtain ⟨y0, y1, y2, y3⟩ := row4 R75.out
  clear HRT
  unfold clsRest Try.f16
  simp only [dropSeq, Option.getD_some]
  go_wp2_with (first
    | (go_at_call 61
       refine (goal_own Bd _ _ _ (by omega) IB5.out).mono ?_
       rintro e8 w8 ⟨a8, c8, rfl, hi8, -, hb8⟩
       have HI8 := Lib.hid hi8
       replace C := Lib.hid (C.out.below hb8)
       have HZ8 : Hid (w.heap.size + 4 ≤ w5.heap.size ∧ w5.heap.size ≤ w8.heap.size) := Lib.hid ⟨by have := HZ5.out; omega, hb8.size⟩
       clear hi8 hb8 y0 y1 y2 y3)
    | (with_reducible show wpList _ _ _ (⟨none, .store _ (.tmp 5) _, _, _, _, _⟩ :: _) _ _
       refine wpList_store_row rfl 27 (.tmp 5) (.tmp 61) rfl (w.heap.size + 3) #[.int .i64 Bd.k, .int .i64 Bd.n, .string Bd.s, .slice a8 Bd.args.length c8] rfl rfl _ _ C.out.r3 size_term rfl (one4 _ _ _ _ _ _) ?_
       replace C := Lib.hid (C.out.set3 #[.int .i64 Bd.k, .int .i64 Bd.n, .string Bd.s, .slice a8 Bd.args.length c8])))
  have HV := Lib.hid (HI8.out.imp (P' := fun b => (P b ∧ b < w.heap.size) ∨ w.heap.size + 4 ≤ b) (fun b h => h.imp_right fun h => by have := HZ8.out; omega) (fun b h _ => setRow_other w8 (w.heap.size + 3) b #[.int .i64 Bd.k, .int .i64 Bd.n, .string Bd.s, .slice a8 Bd.args.length c8] (by have := HZ8.out; rcases h with h | h <;> omega)))
  generalize w8.setRow (w.heap.size + 3) #[.int .i64 Bd.k, .int .i64 Bd.n, .string Bd.s, .slice a8 Bd.args.length c8] = w9 at *
  refine wp_region_rest (by kernel_rfl) ?_
  replace C := Lib.hid (C.out.below (Below.refl _ _).drew)
  have HVW : Hid (IsTm w9.drew (fun b => (P b ∧ b < w.heap.size) ∨ w.heap.size + 4 ≤ b) (aggT (Bd) a8 c8) Bd) := Lib.hid (HV.out.below (Below.refl _ _).drew)
  clear HV
  generalize w9.drew = W0 at *
  have hw0 : w.heap.size + 4 ≤ W0.heap.size := C.out.big
  refine rest_opsM 0 7 72 [(4, w.heap.size + 1), (5, w.heap.size + 2)] (fun i j => match i, j with | 2, 6 => true | _, _ => false) [_, _, _, _, _, _, _] (pk 0 [isV ?a1_0, isV ?a1_1, isV ?a1_2, isV ?a1_3, fun v u => u.heap[w.heap.size + 1]? = some (.cells zeroC 27 (0, 0)), fun v u => u.heap[w.heap.size + 2]? = some (.cells zeroC 27 (0, 0)), isV ?a1_6]) (fun _ _ => none) rfl (by kernel_rfl) (by kernel_rfl) rfl (.inr (by kernel_rfl)) ?hS1 ?hop1 ?_
  case hop1 =>
    refine ⟨?_, ?_⟩
    · intro v u hu hs Q' hQ
      simp only [putX, dstOf, cond_false]
      clear hs
      go_wp2
      exact ⟨rfl, Keeps.refl _ _, by (show _ = _; rfl), fun _ h => nomatch h⟩
    refine ⟨?_, ?_⟩
    · intro v u hu hs Q' hQ
      simp only [putX, dstOf, cond_false]
      clear hs
      go_wp2
      exact ⟨rfl, Keeps.refl _ _, by (show _ = _; rfl), fun _ h => nomatch h⟩
    refine ⟨?_, ?_⟩
    · intro v u hu hs Q' hQ
      simp only [putX, dstOf, cond_true, cond_false]
      clear hs
      go_wp2
      exact ⟨rfl, Keeps.refl _ _, by (show _ = _; rfl), fun _ h => nomatch h⟩
    refine ⟨?_, ?_⟩
    · intro v u hu hs Q' hQ
      simp only [putX, dstOf, cond_false]
      have HZ := hu.size
      have KU : ∀ b, b < W0.heap.size → b ∉ ([w.heap.size + 1, w.heap.size + 2] : List Nat) → u.heap[b]? = W0.heap[b]? := fun b hlt hn => hu.block b hlt fun h => hn h
      clear hs
      (have hz := (KU (w.heap.size + 3) (by omega) (by first | (simp; done) | (simp; omega) | omega)).trans C.out.r3; obtain ⟨x0, x1, x2, x3⟩ := row4 hz; clear hz; go_wp2)
      exact ⟨rfl, Keeps.refl _ _, by (show _ = _; rfl), fun _ h => nomatch h⟩
    refine ⟨?_, ?_⟩
    · intro v u hu hs Q' hQ
      simp only [putX, dstOf, cond_false]
      have s_0 : v 0 = _ := hs 0 (by kernel_rfl) (by decide) (by decide)
      have HZ := hu.size
      have KU : ∀ b, b < W0.heap.size → b ∉ ([] : List Nat) → u.heap[b]? = W0.heap[b]? := fun b hlt hn => hu.block b hlt fun h => hn h
      clear hs
      (have HR5 := Lib.hid ((KU (w.heap.size + 1) (by omega) (by first | (simp; done) | (simp; omega) | omega)).trans C.out.r1); simp only [s_0, Act.put, List.getElem?_toArray, List.getElem?_cons_succ, List.getElem?_cons_zero, Option.bind_some, List.setIfInBounds_toArray, List.set_cons_succ, List.set_cons_zero, Nat.reduceAdd]; go_wp2_with (refine wpList_store_row rfl 27 (.tmp 2) (.tmp 64) rfl (w.heap.size + 1) zeroC rfl rfl _ _ HR5.out size_term rfl (one4 _ _ _ _ _ _) ?_))
      exact ⟨rfl, ⟨rfl, rfl, rfl, by simp, fun b _ hn => setRow_other _ _ _ _ hn⟩, setRow_heap _ _ _ _ _ _ HR5.out, fun _ h => nomatch h⟩
    refine ⟨?_, ?_⟩
    · intro v u hu hs Q' hQ
      simp only [putX, dstOf, cond_false]
      have s_0 : v 0 = _ := hs 0 (by kernel_rfl) (by decide) (by decide)
      have s_1 : v 1 = _ := hs 1 (by kernel_rfl) (by decide) (by decide)
      have s_4 : u.heap[w.heap.size + 1]? = some (.cells zeroC 27 (0, 0)) := hs 4 (by kernel_rfl) (by decide) (by decide)
      have HZ := hu.size
      have KU : ∀ b, b < W0.heap.size → b ∉ ([w.heap.size + 1] : List Nat) → u.heap[b]? = W0.heap[b]? := fun b hlt hn => hu.block b hlt fun h => hn h
      clear hs
      (have HR5 := Lib.hid ((KU (w.heap.size + 2) (by omega) (by first | (simp; done) | (simp; omega) | omega)).trans C.out.r2); simp only [s_1, Act.put, List.getElem?_toArray, List.getElem?_cons_succ, List.getElem?_cons_zero, Option.bind_some, List.setIfInBounds_toArray, List.set_cons_succ, List.set_cons_zero, Nat.reduceAdd]; go_wp2_with (refine wpList_store_row rfl 27 (.tmp 3) (.tmp 65) rfl (w.heap.size + 2) zeroC rfl rfl _ _ HR5.out size_term rfl (one4 _ _ _ _ _ _) ?_))
      exact ⟨rfl, ⟨rfl, rfl, rfl, by simp, fun b _ hn => setRow_other _ _ _ _ hn⟩, setRow_heap _ _ _ _ _ _ HR5.out, fun _ h => nomatch h⟩
    refine ⟨?_, ?_⟩
    · intro v u hu hs Q' hQ
      simp only [putX, dstOf, cond_false]
      have s_0 : v 0 = _ := hs 0 (by kernel_rfl) (by decide) (by decide)
      have s_1 : v 1 = _ := hs 1 (by kernel_rfl) (by decide) (by decide)
      have s_2 : v 2 = _ := hs 2 (by kernel_rfl) (by decide) (by decide)
      have s_4 : u.heap[w.heap.size + 1]? = some (.cells zeroC 27 (0, 0)) := hs 4 (by kernel_rfl) (by decide) (by decide)
      have s_5 : u.heap[w.heap.size + 2]? = some (.cells zeroC 27 (0, 0)) := hs 5 (by kernel_rfl) (by decide) (by decide)
      clear hs
      go_wp2
      exact ⟨rfl, Keeps.refl _ _, by (show _ = _; rfl), fun _ h => nomatch h⟩
    exact trivial
  case hS1 =>
    intro j v u u' hkj hjn h hz hb
    match j, hkj, hjn, h, hb with
    | 0, _, _, h, hb => exact h
    | 1, _, _, h, hb => exact h
    | 2, _, _, h, hb => exact h
    | 3, _, _, h, hb => exact h
    | 4, _, _, h, hb => exact (hb.block _ (by have := (Array.getElem?_eq_some_iff.1 h).1; exact this) (by rintro ⟨q, hq, hm⟩; simp at hm <;> omega)).trans h
    | 5, _, _, h, hb => exact (hb.block _ (by have := (Array.getElem?_eq_some_iff.1 h).1; exact this) (by rintro ⟨q, hq, hm⟩; simp at hm <;> omega)).trans h
    | 6, _, _, h, hb => exact h
    | q + 7, _, hq, _, _ => exact absurd hq (by omega)
  intro v u hu hs hap
  have s_0 : v 0 = _ := hs 0 (by decide) (by decide)
  have s_1 : v 1 = _ := hs 1 (by decide) (by decide)
  have s_2 : v 2 = _ := hs 2 (by decide) (by decide)
  have s_3 : v 3 = _ := hs 3 (by decide) (by decide)
  have s_4 : u.heap[w.heap.size + 1]? = some (.cells zeroC 27 (0, 0)) := hs 4 (by decide) (by decide)
  have s_5 : u.heap[w.heap.size + 2]? = some (.cells zeroC 27 (0, 0)) := hs 5 (by decide) (by decide)
  have s_6 : v 6 = _ := hs 6 (by decide) (by decide)
  simp only [putAll, dstOf]
  have S4 := Lib.hid s_4
  have S5 := Lib.hid s_5
  have HKU := Lib.hid hu
  have HR3 := Lib.hid ((hu.block (w.heap.size + 3) (by omega) (by rintro ⟨q, hm⟩; simp at hm <;> omega)).trans C.out.r3)
  clear hs hap s_0 s_1 s_4 s_5 hu
  refine rest_lineL 7 8 [_] rfl (by kernel_rfl) (by decide) (by decide) (by kernel_rfl) ?_
  simp only [s_3, s_6, Act.put, List.getElem?_toArray, List.getElem?_cons_succ, List.getElem?_cons_zero, Option.bind_some, List.setIfInBounds_toArray, List.set_cons_succ, List.set_cons_zero, Nat.reduceAdd]
  clear s_2 s_3 s_6
  go_wp2_with (refine wpList_store_row rfl 27 (.tmp 5) (.tmp 67) rfl (w.heap.size + 3) #[.int .i64 Bd.k, .int .i64 Bd.n, .string Bd.s, .slice a8 Bd.args.length c8] rfl rfl _ _ HR3.out size_term rfl (one4 _ _ _ _ _ _) ?_)
  refine then_rest (rest_end (by decide) ?_)
  have hr1 := (setRow_other u (w.heap.size + 3) (w.heap.size + 1) #[.int .i64 Bd.k, .int .i64 Bd.n, .string Bd.s, .slice a8 Bd.args.length c8] (by omega)).trans S4.out
  have hr2 := (setRow_other u (w.heap.size + 3) (w.heap.size + 2) #[.int .i64 Bd.k, .int .i64 Bd.n, .string Bd.s, .slice a8 Bd.args.length c8] (by omega)).trans S5.out
  have hr3 := setRow_heap u (w.heap.size + 3) _ (#[.int .i64 Bd.k, .int .i64 Bd.n, .string Bd.s, .slice a8 Bd.args.length c8] : Array Value) _ _ HR3.out
  have hbu : Below w.heap.size w u := C.out.bel.trans ⟨HKU.out.os, HKU.out.tape, HKU.out.output, by have := HKU.out.size; omega, fun b hb => HKU.out.block b (by omega) (by rintro ⟨q, hm⟩; simp at hm <;> omega)⟩
  have hpost : ClsPost P (clsT t) w (.returned (.tuple #[.agg zeroC, .agg zeroC, .int .i64 13, aggT (Bd) a8 c8])) (u.setRow (w.heap.size + 3) #[.int .i64 Bd.k, .int .i64 Bd.n, .string Bd.s, .slice a8 Bd.args.length c8]) := by
    rw [HRV.out]
    refine ⟨none, 0, none, 0, a8, c8, rfl, zero_is _ _, zero_is _ _, HVW.out.imp (fun b h => h.elim (fun h => .inl h.1) fun h => .inr (by omega)) (fun b h hl => ?_), below_setRow hbu (by omega) _⟩
    have hb : b ≠ w.heap.size + 1 ∧ b ≠ w.heap.size + 2 ∧ b ≠ w.heap.size + 3 := by rcases h with h | h <;> omega
    exact (setRow_other _ _ _ _ hb.2.2).trans (HKU.out.block b hl (by rintro ⟨q, hm⟩; simp at hm <;> omega))
  go_wp2
  exact bodyPost_ret (v := .tuple #[.agg zeroC, .agg zeroC, .int .i64 13, aggT (Bd) a8 c8]) (results_four Try.results16 _ _ _ _ _ _ _ _ _ _ _ _ rfl rfl rfl rfl hr1 hr2 hr3 Try.underlying27 rfl (by kernel_rfl) (by kernel_rfl) (by kernel_rfl)) rfl hpost
end Go.Proofs.Ytmlceamcpelklaa.Tms
namespace Go.Proofs.Ytmlceamcpelklaa.Tms
open Go Go.RowKit Go.Proofs.Ytmlceamcpelklaa.Reg
set_option linter.unusedVariables false

set_option maxRecDepth 100000 in
set_option maxHeartbeats 16000000 in
theorem cls_0 {P : Nat → Prop} {w w5 : World} {t H Bd B : Tm} {a aH aB a5 : Option Addr} {cap cH cB c5 b6 : Nat} {e : Int} {Qf : Ending → World → Prop} (x0 x8 x9 x10 x11 x12 x13 x14 x15 x16 x17 x18 x19 x20 x21 x22 x23 x24 x25 x26 x27 x28 x29 x30 x31 x32 x33 x34 x35 x36 x37 x38 x39 x40 x41 x42 x43 x44 x45 x46 x47 x48 x49 x50 x51 x52 x53 x54 x55 x56 x57 x58 x59 x60 x61 x62 x63 x64 x65 x66 x67 x68 x69 x70 x71 : Value)
    (hC : ClsCtx w t a cap zeroC #[.int .i64 B.k, .int .i64 B.n, .string B.s, .slice a5 B.args.length c5] zeroC w5) (hb6 : w.heap.size + 4 ≤ b6) (hz5 : b6 + 2 ≤ w5.heap.size) (h6 : w5.heap[b6]? = some (rowT H aH cH)) (h7 : w5.heap[b6 + 1]? = some (rowT Bd aB cB)) (hH : IsTm w5 (fun b => P b ∧ b < w.heap.size) (aggT H aH cH) H) (hB : IsTm w5 (fun b => P b ∧ b < w.heap.size) (aggT Bd aB cB) Bd)
    (hV : IsTm w5 (fun b => (P b ∧ b < w.heap.size) ∨ b6 ≤ b) (aggT B a5 c5) B) (hsH : H.size ≤ 100000000) (hsB : Bd.size ≤ 100000000) (h0 : e = 0)
    (hrt : clsT t = if e = 13 then (zeroTm, zeroTm, 13, Bd) else if e ≠ 0 then (zeroTm, zeroTm, e, zeroTm) else (H, B, 0, zeroTm)) :
    Code.wp Try.prog (clsRest Try.f16) (bodyPost Try.prog Try.f16 (ClsPost P (clsT t) w)) ⟨#[x0, .pointer (some ⟨w.heap.size, 0, none⟩), .pointer (some ⟨w.heap.size + 1, 0, none⟩), .pointer (some ⟨w.heap.size + 2, 0, none⟩), .int .i64 e, .pointer (some ⟨w.heap.size + 3, 0, none⟩), .pointer (some ⟨b6, 0, none⟩), .pointer (some ⟨b6 + 1, 0, none⟩), x8, x9, x10, x11, x12, x13, x14, x15, x16, x17, x18, x19, x20, x21, x22, x23, x24, x25, x26, x27, x28, x29, x30, x31, x32, x33, x34, x35, x36, x37, x38, x39, x40, x41, x42, x43, x44, x45, x46, x47, x48, x49, x50, x51, x52, x53, x54, x55, x56, x57, x58, x59, x60, x61, x62, x63, x64, x65, x66, x67, x68, x69, x70, x71], []⟩ w5 := by
  have C := Lib.hid hC
  have R65 := Lib.hid h6
  have R75 := Lib.hid h7
  have IH5 := Lib.hid hH
  have IB5 := Lib.hid hB
  have HI5 := Lib.hid hV
  have HRT := Lib.hid hrt
  have HZ5 := Lib.hid hz5
  clear hC h6 h7 hH hB hV hrt
  subst h0
  have HRV := Lib.hid (show clsT t = (H, B, 0, zeroTm) by rw [HRT.out, if_neg (by decide), if_neg (by decide)])
  have f13 : ((0 : Int) == 13) = false := by decide
  have f0 : ((0 : Int) != 0) = false := by decide
  clear HRT
  unfold clsRest Try.f16
  simp only [dropSeq, Option.getD_some]
  go_wp2
  have HV := Lib.hid (HI5.out.imp (P' := fun b => (P b ∧ b < w.heap.size) ∨ w.heap.size + 4 ≤ b) (fun b h => h.imp_right fun h => by omega) (fun _ _ _ => rfl))
  have HH := IH5
  have R69 := R65
  clear R65 IH5 HI5
  generalize w5 = w9 at *
  refine wp_region_rest (by kernel_rfl) ?_
  replace C := Lib.hid (C.out.below (Below.refl _ _).drew)
  have HBW : Hid (IsTm w9.drew (fun b => (P b ∧ b < w.heap.size) ∨ w.heap.size + 4 ≤ b) (aggT B a5 c5) B) := Lib.hid (HV.out.below (Below.refl _ _).drew)
  have HHW : Hid (IsTm w9.drew (fun b => P b ∧ b < w.heap.size) (aggT H aH cH) H) := Lib.hid (HH.out.below (Below.refl _ _).drew)
  have HR6 : Hid (w9.drew.heap[b6]? = _) := Lib.hid R69.out
  clear HV HH R69
  generalize w9.drew = W0 at *
  have hw0 : w.heap.size + 4 ≤ W0.heap.size := C.out.big
  have hw6 : b6 < W0.heap.size := (Array.getElem?_eq_some_iff.1 HR6.out).1
  refine rest_opsM 0 7 72 [(4, w.heap.size + 1), (5, w.heap.size + 2)] (fun _ _ => false) [_, _, _, _, _, _, _] (pk 0 [isV ?a2_0, fun v u => GowV (fun b => P b ∧ b < w.heap.size) W0.heap.size H v u, isV ?a2_2, isV ?a2_3, fun v u => ∃ a c, u.heap[w.heap.size + 1]? = some (.cells #[.int .i64 (H).k, .int .i64 (H).n, .string (H).s, .slice a (H).args.length c] 27 (0, 0)) ∧ GowV (fun b => P b ∧ b < w.heap.size) W0.heap.size H (.agg #[.int .i64 (H).k, .int .i64 (H).n, .string (H).s, .slice a (H).args.length c]) u ∧ w.heap.size + 1 < u.heap.size, fun v u => u.heap[w.heap.size + 2]? = some (.cells #[.int .i64 B.k, .int .i64 B.n, .string B.s, .slice a5 B.args.length c5] 27 (0, 0)), isV ?a2_6]) (fun _ _ => none) rfl (by kernel_rfl) (by kernel_rfl) rfl (.inr (by kernel_rfl)) ?hS2 ?hop2 ?_
  case hop2 =>
    refine ⟨?_, ?_⟩
    · intro v u hu hs Q' hQ
      simp only [putX, dstOf, cond_false]
      have HZ := hu.size
      have KU : ∀ b, b < W0.heap.size → b ∉ ([] : List Nat) → u.heap[b]? = W0.heap[b]? := fun b hlt hn => hu.block b hlt fun h => hn h
      clear hs
      (have hz := (KU b6 hw6 (by first | (simp; done) | (simp; omega) | omega)).trans HR6.out; obtain ⟨x0, x1, x2, x3⟩ := row4 hz; clear hz; go_wp2)
      exact ⟨rfl, Keeps.refl _ _, by (show _ = _; rfl), fun _ h => nomatch h⟩
    refine ⟨?_, ?_⟩
    · intro v u hu hs Q' hQ
      simp only [putX, dstOf, cond_false]
      have s_0 : v 0 = _ := hs 0 (by kernel_rfl) (by decide) (by decide)
      have HZ := hu.size
      have KU : ∀ b, b < W0.heap.size → b ∉ ([] : List Nat) → u.heap[b]? = W0.heap[b]? := fun b hlt hn => hu.block b hlt fun h => hn h
      clear hs
      (have hit := HHW.out.imp (fun _ h => h) (fun b hp hlt => KU b hlt (by first | (simp; done) | (simp; have := hp.2; omega))); have HIT := Lib.hid hit; clear hit; simp only [s_0]; go_wp2_with (go_at_call 61; refine (goal_own H _ _ u (by omega) HIT.out).mono ?_; rintro e3 w3 ⟨a3, c3, rfl, hi3, ht3, hb3⟩))
      exact ⟨rfl, Keeps.of hb3, ⟨a3, c3, rfl, hi3.imp (fun b h => h.imp_right fun h => Nat.le_trans HZ h) (fun _ _ _ => rfl), fun h => let ⟨g, e, hg, hp⟩ := ht3 h; ⟨g, e, Nat.le_trans HZ hg, hp⟩⟩, fun _ h => nomatch h⟩
    refine ⟨?_, ?_⟩
    · intro v u hu hs Q' hQ
      simp only [putX, dstOf, cond_false]
      have HZ := hu.size
      have KU : ∀ b, b < W0.heap.size → b ∉ ([w.heap.size + 1] : List Nat) → u.heap[b]? = W0.heap[b]? := fun b hlt hn => hu.block b hlt fun h => hn h
      clear hs
      (have hz := (KU (w.heap.size + 2) (by omega) (by first | (simp; done) | (simp; omega) | omega)).trans C.out.r2; obtain ⟨x0, x1, x2, x3⟩ := row4 hz; clear hz; go_wp2)
      exact ⟨rfl, Keeps.refl _ _, by (show _ = _; rfl), fun _ h => nomatch h⟩
    refine ⟨?_, ?_⟩
    · intro v u hu hs Q' hQ
      simp only [putX, dstOf, cond_false]
      clear hs
      go_wp2
      exact ⟨rfl, Keeps.refl _ _, by (show _ = _; rfl), fun _ h => nomatch h⟩
    refine ⟨?_, ?_⟩
    · intro v u hu hs Q' hQ
      simp only [putX, dstOf, cond_false]
      have s_0 : v 0 = _ := hs 0 (by kernel_rfl) (by decide) (by decide)
      have s_1 : GowV (fun b => P b ∧ b < w.heap.size) W0.heap.size H (v 1) u := hs 1 (by kernel_rfl) (by decide) (by decide)
      have HZ := hu.size
      have KU : ∀ b, b < W0.heap.size → b ∉ ([] : List Nat) → u.heap[b]? = W0.heap[b]? := fun b hlt hn => hu.block b hlt fun h => hn h
      clear hs
      (obtain ⟨a3, c3, e3, hi3, ht3⟩ := s_1; have HI3 := Lib.hid hi3; have HT3 := Lib.hid ht3; have HR5 := Lib.hid ((KU (w.heap.size + 1) (by omega) (by first | (simp; done) | (simp; omega) | omega)).trans C.out.r1); clear hi3 ht3; simp only [e3, Act.put, List.getElem?_toArray, List.getElem?_cons_succ, List.getElem?_cons_zero, Option.bind_some, List.setIfInBounds_toArray, List.set_cons_succ, List.set_cons_zero, Nat.reduceAdd]; go_wp2_with (refine wpList_store_row rfl 27 (.tmp 2) (.tmp 69) rfl (w.heap.size + 1) #[.int .i64 (H).k, .int .i64 (H).n, .string (H).s, .slice a3 (H).args.length c3] rfl rfl _ _ HR5.out size_term rfl (one4 _ _ _ _ _ _) ?_))
      exact ⟨rfl, (gow_stored HR5.out HI3.out HT3.out HZ (by omega)).1, (gow_stored HR5.out HI3.out HT3.out HZ (by omega)).2, fun _ h => nomatch h⟩
    refine ⟨?_, ?_⟩
    · intro v u hu hs Q' hQ
      simp only [putX, dstOf, cond_false]
      have s_0 : v 0 = _ := hs 0 (by kernel_rfl) (by decide) (by decide)
      have s_1 : GowV (fun b => P b ∧ b < w.heap.size) W0.heap.size H (v 1) u := hs 1 (by kernel_rfl) (by decide) (by decide)
      have s_2 : v 2 = _ := hs 2 (by kernel_rfl) (by decide) (by decide)
      have s_4 : ∃ a c, u.heap[w.heap.size + 1]? = some (.cells #[.int .i64 (H).k, .int .i64 (H).n, .string (H).s, .slice a (H).args.length c] 27 (0, 0)) ∧ GowV (fun b => P b ∧ b < w.heap.size) W0.heap.size H (.agg #[.int .i64 (H).k, .int .i64 (H).n, .string (H).s, .slice a (H).args.length c]) u ∧ w.heap.size + 1 < u.heap.size := hs 4 (by kernel_rfl) (by decide) (by decide)
      have HZ := hu.size
      have KU : ∀ b, b < W0.heap.size → b ∉ ([w.heap.size + 1] : List Nat) → u.heap[b]? = W0.heap[b]? := fun b hlt hn => hu.block b hlt fun h => hn h
      clear hs
      (have HR5 := Lib.hid ((KU (w.heap.size + 2) (by omega) (by first | (simp; done) | (simp; omega) | omega)).trans C.out.r2); simp only [s_2, Act.put, List.getElem?_toArray, List.getElem?_cons_succ, List.getElem?_cons_zero, Option.bind_some, List.setIfInBounds_toArray, List.set_cons_succ, List.set_cons_zero, Nat.reduceAdd]; go_wp2_with (refine wpList_store_row rfl 27 (.tmp 3) (.tmp 70) rfl (w.heap.size + 2) #[.int .i64 B.k, .int .i64 B.n, .string B.s, .slice a5 B.args.length c5] rfl rfl _ _ HR5.out size_term rfl (one4 _ _ _ _ _ _) ?_))
      exact ⟨rfl, ⟨rfl, rfl, rfl, by simp, fun b _ hn => setRow_other _ _ _ _ hn⟩, setRow_heap _ _ _ _ _ _ HR5.out, fun _ h => nomatch h⟩
    refine ⟨?_, ?_⟩
    · intro v u hu hs Q' hQ
      simp only [putX, dstOf, cond_false]
      have s_0 : v 0 = _ := hs 0 (by kernel_rfl) (by decide) (by decide)
      have s_1 : GowV (fun b => P b ∧ b < w.heap.size) W0.heap.size H (v 1) u := hs 1 (by kernel_rfl) (by decide) (by decide)
      have s_2 : v 2 = _ := hs 2 (by kernel_rfl) (by decide) (by decide)
      have s_4 : ∃ a c, u.heap[w.heap.size + 1]? = some (.cells #[.int .i64 (H).k, .int .i64 (H).n, .string (H).s, .slice a (H).args.length c] 27 (0, 0)) ∧ GowV (fun b => P b ∧ b < w.heap.size) W0.heap.size H (.agg #[.int .i64 (H).k, .int .i64 (H).n, .string (H).s, .slice a (H).args.length c]) u ∧ w.heap.size + 1 < u.heap.size := hs 4 (by kernel_rfl) (by decide) (by decide)
      have s_5 : u.heap[w.heap.size + 2]? = some (.cells #[.int .i64 B.k, .int .i64 B.n, .string B.s, .slice a5 B.args.length c5] 27 (0, 0)) := hs 5 (by kernel_rfl) (by decide) (by decide)
      clear hs
      go_wp2
      exact ⟨rfl, Keeps.refl _ _, by (show _ = _; rfl), fun _ h => nomatch h⟩
    exact trivial
  case hS2 =>
    intro j v u u' hkj hjn h hz hb
    match j, hkj, hjn, h, hb with
    | 0, _, _, h, hb => exact h
    | 1, _, _, h, hb => exact h.keep hb (by rintro b ⟨q, -, hm⟩ hp; simp at hm; rcases hp with hp | hp <;> omega)
    | 2, _, _, h, hb => exact h
    | 3, _, _, h, hb => exact h
    | 4, _, _, h, hb => exact (let ⟨a, c, h1, h2, h3⟩ := h; ⟨a, c, (hb.block _ h3 (by rintro ⟨q, hq, hm⟩; simp at hm <;> omega)).trans h1, h2.keep hb (by rintro b ⟨q, hq, hm⟩ hp; simp at hm; rcases hp with hp | hp <;> omega), Nat.lt_of_lt_of_le h3 hb.size⟩)
    | 5, _, _, h, hb => exact (hb.block _ (by have := (Array.getElem?_eq_some_iff.1 h).1; exact this) (by rintro ⟨q, hq, hm⟩; simp at hm <;> omega)).trans h
    | 6, _, _, h, hb => exact h
    | q + 7, _, hq, _, _ => exact absurd hq (by omega)
  intro v u hu hs hap
  have s_0 : v 0 = _ := hs 0 (by decide) (by decide)
  have s_1 : GowV (fun b => P b ∧ b < w.heap.size) W0.heap.size H (v 1) u := hs 1 (by decide) (by decide)
  have s_2 : v 2 = _ := hs 2 (by decide) (by decide)
  have s_3 : v 3 = _ := hs 3 (by decide) (by decide)
  have s_4 : ∃ a c, u.heap[w.heap.size + 1]? = some (.cells #[.int .i64 (H).k, .int .i64 (H).n, .string (H).s, .slice a (H).args.length c] 27 (0, 0)) ∧ GowV (fun b => P b ∧ b < w.heap.size) W0.heap.size H (.agg #[.int .i64 (H).k, .int .i64 (H).n, .string (H).s, .slice a (H).args.length c]) u ∧ w.heap.size + 1 < u.heap.size := hs 4 (by decide) (by decide)
  have s_5 : u.heap[w.heap.size + 2]? = some (.cells #[.int .i64 B.k, .int .i64 B.n, .string B.s, .slice a5 B.args.length c5] 27 (0, 0)) := hs 5 (by decide) (by decide)
  have s_6 : v 6 = _ := hs 6 (by decide) (by decide)
  simp only [putAll, dstOf]
  obtain ⟨a5', c5', h5r, h5v, -⟩ := s_4
  obtain ⟨a6', c6', e6, h6i, -⟩ := h5v
  simp only [Value.agg.injEq, Array.mk.injEq, List.cons.injEq, and_true, true_and, Value.slice.injEq] at e6
  obtain ⟨rfl, rfl⟩ := e6
  have S4 := Lib.hid h5r
  have H6I := Lib.hid h6i
  have S5 := Lib.hid s_5
  have HKU := Lib.hid hu
  have HR3 := Lib.hid ((hu.block (w.heap.size + 3) (by omega) (by rintro ⟨q, hm⟩; simp at hm <;> omega)).trans C.out.r3)
  clear hs hap s_0 s_1 s_2 s_5 hu h5r h6i
  refine rest_lineL 7 8 [_] rfl (by kernel_rfl) (by decide) (by decide) (by kernel_rfl) ?_
  simp only [s_3, s_6, Act.put, List.getElem?_toArray, List.getElem?_cons_succ, List.getElem?_cons_zero, Option.bind_some, List.setIfInBounds_toArray, List.set_cons_succ, List.set_cons_zero, Nat.reduceAdd]
  clear s_3 s_6
  go_wp2_with (refine wpList_store_row rfl 27 (.tmp 5) (.tmp 71) rfl (w.heap.size + 3) zeroC rfl rfl _ _ HR3.out size_term rfl (one4 _ _ _ _ _ _) ?_)
  refine then_rest (rest_end (by decide) ?_)
  have hr1 := (setRow_other u (w.heap.size + 3) (w.heap.size + 1) zeroC (by omega)).trans S4.out
  have hr2 := (setRow_other u (w.heap.size + 3) (w.heap.size + 2) zeroC (by omega)).trans S5.out
  have hr3 := setRow_heap u (w.heap.size + 3) _ zeroC _ _ HR3.out
  have hbu : Below w.heap.size w u := C.out.bel.trans ⟨HKU.out.os, HKU.out.tape, HKU.out.output, by have := HKU.out.size; omega, fun b hb => HKU.out.block b (by omega) (by rintro ⟨q, hm⟩; simp at hm <;> omega)⟩
  have hpost : ClsPost P (clsT t) w (.returned (.tuple #[aggT (H) a5' c5', aggT B a5 c5, .int .i64 0, .agg zeroC])) (u.setRow (w.heap.size + 3) zeroC) := by
    rw [HRV.out]
    refine ⟨a5', c5', a5, c5, none, 0, rfl, H6I.out.imp (fun b h => h.elim (fun h => .inl h.1) fun h => .inr (by omega)) (fun b h hl => ?_), HBW.out.imp (fun b h => h.elim (fun h => .inl h.1) fun h => .inr (by omega)) (fun b h hl => ?_), zero_is _ _, below_setRow hbu (by omega) _⟩
    · exact setRow_other _ _ _ _ (by rcases h with h | h <;> omega)
    · have hb : b ≠ w.heap.size + 1 ∧ b ≠ w.heap.size + 2 ∧ b ≠ w.heap.size + 3 := by rcases h with h | h <;> omega
      exact (setRow_other _ _ _ _ hb.2.2).trans (HKU.out.block b hl (by rintro ⟨q, hm⟩; simp at hm <;> omega))
  go_wp2
  exact bodyPost_ret (v := .tuple #[aggT (H) a5' c5', aggT B a5 c5, .int .i64 0, .agg zeroC]) (results_four Try.results16 _ _ _ _ _ _ _ _ _ _ _ _ rfl rfl rfl rfl hr1 hr2 hr3 Try.underlying27 rfl (by kernel_rfl) (by kernel_rfl) (by kernel_rfl)) rfl hpost
end Go.Proofs.Ytmlceamcpelklaa.Tms
namespace Go.Proofs.Ytmlceamcpelklaa.Tms
open Go Go.RowKit Go.Proofs.Ytmlceamcpelklaa.Reg
set_option linter.unusedVariables false

set_option maxRecDepth 100000 in
set_option maxHeartbeats 16000000 in
theorem cls_1 {P : Nat → Prop} {w w5 : World} {t H Bd B : Tm} {a aH aB a5 : Option Addr} {cap cH cB c5 b6 : Nat} {e : Int} {Qf : Ending → World → Prop} (x0 x8 x9 x10 x11 x12 x13 x14 x15 x16 x17 x18 x19 x20 x21 x22 x23 x24 x25 x26 x27 x28 x29 x30 x31 x32 x33 x34 x35 x36 x37 x38 x39 x40 x41 x42 x43 x44 x45 x46 x47 x48 x49 x50 x51 x52 x53 x54 x55 x56 x57 x58 x59 x60 x61 x62 x63 x64 x65 x66 x67 x68 x69 x70 x71 : Value)
    (hC : ClsCtx w t a cap zeroC #[.int .i64 B.k, .int .i64 B.n, .string B.s, .slice a5 B.args.length c5] zeroC w5) (hb6 : w.heap.size + 4 ≤ b6) (hz5 : b6 + 2 ≤ w5.heap.size) (h6 : w5.heap[b6]? = some (rowT H aH cH)) (h7 : w5.heap[b6 + 1]? = some (rowT Bd aB cB)) (hH : IsTm w5 (fun b => P b ∧ b < w.heap.size) (aggT H aH cH) H) (hB : IsTm w5 (fun b => P b ∧ b < w.heap.size) (aggT Bd aB cB) Bd)
    (hV : IsTm w5 (fun b => (P b ∧ b < w.heap.size) ∨ b6 ≤ b) (aggT B a5 c5) B) (hsH : H.size ≤ 100000000) (hsB : Bd.size ≤ 100000000) (h13 : e ≠ 13) (h0 : e ≠ 0)
    (hrt : clsT t = if e = 13 then (zeroTm, zeroTm, 13, Bd) else if e ≠ 0 then (zeroTm, zeroTm, e, zeroTm) else (H, B, 0, zeroTm)) :
    Code.wp Try.prog (clsRest Try.f16) (bodyPost Try.prog Try.f16 (ClsPost P (clsT t) w)) ⟨#[x0, .pointer (some ⟨w.heap.size, 0, none⟩), .pointer (some ⟨w.heap.size + 1, 0, none⟩), .pointer (some ⟨w.heap.size + 2, 0, none⟩), .int .i64 e, .pointer (some ⟨w.heap.size + 3, 0, none⟩), .pointer (some ⟨b6, 0, none⟩), .pointer (some ⟨b6 + 1, 0, none⟩), x8, x9, x10, x11, x12, x13, x14, x15, x16, x17, x18, x19, x20, x21, x22, x23, x24, x25, x26, x27, x28, x29, x30, x31, x32, x33, x34, x35, x36, x37, x38, x39, x40, x41, x42, x43, x44, x45, x46, x47, x48, x49, x50, x51, x52, x53, x54, x55, x56, x57, x58, x59, x60, x61, x62, x63, x64, x65, x66, x67, x68, x69, x70, x71], []⟩ w5 := by
  have C := Lib.hid hC
  have R65 := Lib.hid h6
  have R75 := Lib.hid h7
  have IH5 := Lib.hid hH
  have IB5 := Lib.hid hB
  have HI5 := Lib.hid hV
  have HRT := Lib.hid hrt
  have HZ5 := Lib.hid hz5
  clear hC h6 h7 hH hB hV hrt
  have f13 : (e == 13) = false := by simpa using h13
  have f0 : (e != 0) = true := by simpa using h0
  have HRV := Lib.hid (show clsT t = (zeroTm, zeroTm, e, zeroTm) by rw [HRT.out, if_neg h13, if_pos h0])
  clear HRT h13 h0
  unfold clsRest Try.f16
  simp only [dropSeq, Option.getD_some]
  go_wp2
  generalize w5 = w9 at *
  have HV : Hid (IsTm w9 (fun b => (P b ∧ b < w.heap.size) ∨ w.heap.size + 4 ≤ b) (.agg zeroC) zeroTm) := Lib.hid (zero_is _ _)
  refine wp_region_rest (by kernel_rfl) ?_
  replace C := Lib.hid (C.out.below (Below.refl _ _).drew)
  have HVW : Hid (IsTm w9.drew (fun b => (P b ∧ b < w.heap.size) ∨ w.heap.size + 4 ≤ b) (.agg zeroC) zeroTm) := Lib.hid (HV.out.below (Below.refl _ _).drew)
  clear HV
  generalize w9.drew = W0 at *
  have hw0 : w.heap.size + 4 ≤ W0.heap.size := C.out.big
  refine rest_opsM 0 7 72 [(4, w.heap.size + 1), (5, w.heap.size + 2)] (fun i j => match i, j with | 2, 6 => true | _, _ => false) [_, _, _, _, _, _, _] (pk 0 [isV ?a3_0, isV ?a3_1, isV ?a3_2, isV ?a3_3, fun v u => u.heap[w.heap.size + 1]? = some (.cells zeroC 27 (0, 0)), fun v u => u.heap[w.heap.size + 2]? = some (.cells zeroC 27 (0, 0)), isV ?a3_6]) (fun _ _ => none) rfl (by kernel_rfl) (by kernel_rfl) rfl (.inr (by kernel_rfl)) ?hS3 ?hop3 ?_
  case hop3 =>
    refine ⟨?_, ?_⟩
    · intro v u hu hs Q' hQ
      simp only [putX, dstOf, cond_false]
      clear hs
      go_wp2
      exact ⟨rfl, Keeps.refl _ _, by (show _ = _; rfl), fun _ h => nomatch h⟩
    refine ⟨?_, ?_⟩
    · intro v u hu hs Q' hQ
      simp only [putX, dstOf, cond_false]
      clear hs
      go_wp2
      exact ⟨rfl, Keeps.refl _ _, by (show _ = _; rfl), fun _ h => nomatch h⟩
    refine ⟨?_, ?_⟩
    · intro v u hu hs Q' hQ
      simp only [putX, dstOf, cond_true, cond_false]
      clear hs
      go_wp2
      exact ⟨rfl, Keeps.refl _ _, by (show _ = _; rfl), fun _ h => nomatch h⟩
    refine ⟨?_, ?_⟩
    · intro v u hu hs Q' hQ
      simp only [putX, dstOf, cond_false]
      have HZ := hu.size
      have KU : ∀ b, b < W0.heap.size → b ∉ ([w.heap.size + 1, w.heap.size + 2] : List Nat) → u.heap[b]? = W0.heap[b]? := fun b hlt hn => hu.block b hlt fun h => hn h
      clear hs
      (have hz := (KU (w.heap.size + 3) (by omega) (by first | (simp; done) | (simp; omega) | omega)).trans C.out.r3; obtain ⟨x0, x1, x2, x3⟩ := row4 hz; clear hz; go_wp2)
      exact ⟨rfl, Keeps.refl _ _, by (show _ = _; rfl), fun _ h => nomatch h⟩
    refine ⟨?_, ?_⟩
    · intro v u hu hs Q' hQ
      simp only [putX, dstOf, cond_false]
      have s_0 : v 0 = _ := hs 0 (by kernel_rfl) (by decide) (by decide)
      have HZ := hu.size
      have KU : ∀ b, b < W0.heap.size → b ∉ ([] : List Nat) → u.heap[b]? = W0.heap[b]? := fun b hlt hn => hu.block b hlt fun h => hn h
      clear hs
      (have HR5 := Lib.hid ((KU (w.heap.size + 1) (by omega) (by first | (simp; done) | (simp; omega) | omega)).trans C.out.r1); simp only [s_0, Act.put, List.getElem?_toArray, List.getElem?_cons_succ, List.getElem?_cons_zero, Option.bind_some, List.setIfInBounds_toArray, List.set_cons_succ, List.set_cons_zero, Nat.reduceAdd]; go_wp2_with (refine wpList_store_row rfl 27 (.tmp 2) (.tmp 64) rfl (w.heap.size + 1) zeroC rfl rfl _ _ HR5.out size_term rfl (one4 _ _ _ _ _ _) ?_))
      exact ⟨rfl, ⟨rfl, rfl, rfl, by simp, fun b _ hn => setRow_other _ _ _ _ hn⟩, setRow_heap _ _ _ _ _ _ HR5.out, fun _ h => nomatch h⟩
    refine ⟨?_, ?_⟩
    · intro v u hu hs Q' hQ
      simp only [putX, dstOf, cond_false]
      have s_0 : v 0 = _ := hs 0 (by kernel_rfl) (by decide) (by decide)
      have s_1 : v 1 = _ := hs 1 (by kernel_rfl) (by decide) (by decide)
      have s_4 : u.heap[w.heap.size + 1]? = some (.cells zeroC 27 (0, 0)) := hs 4 (by kernel_rfl) (by decide) (by decide)
      have HZ := hu.size
      have KU : ∀ b, b < W0.heap.size → b ∉ ([w.heap.size + 1] : List Nat) → u.heap[b]? = W0.heap[b]? := fun b hlt hn => hu.block b hlt fun h => hn h
      clear hs
      (have HR5 := Lib.hid ((KU (w.heap.size + 2) (by omega) (by first | (simp; done) | (simp; omega) | omega)).trans C.out.r2); simp only [s_1, Act.put, List.getElem?_toArray, List.getElem?_cons_succ, List.getElem?_cons_zero, Option.bind_some, List.setIfInBounds_toArray, List.set_cons_succ, List.set_cons_zero, Nat.reduceAdd]; go_wp2_with (refine wpList_store_row rfl 27 (.tmp 3) (.tmp 65) rfl (w.heap.size + 2) zeroC rfl rfl _ _ HR5.out size_term rfl (one4 _ _ _ _ _ _) ?_))
      exact ⟨rfl, ⟨rfl, rfl, rfl, by simp, fun b _ hn => setRow_other _ _ _ _ hn⟩, setRow_heap _ _ _ _ _ _ HR5.out, fun _ h => nomatch h⟩
    refine ⟨?_, ?_⟩
    · intro v u hu hs Q' hQ
      simp only [putX, dstOf, cond_false]
      have s_0 : v 0 = _ := hs 0 (by kernel_rfl) (by decide) (by decide)
      have s_1 : v 1 = _ := hs 1 (by kernel_rfl) (by decide) (by decide)
      have s_2 : v 2 = _ := hs 2 (by kernel_rfl) (by decide) (by decide)
      have s_4 : u.heap[w.heap.size + 1]? = some (.cells zeroC 27 (0, 0)) := hs 4 (by kernel_rfl) (by decide) (by decide)
      have s_5 : u.heap[w.heap.size + 2]? = some (.cells zeroC 27 (0, 0)) := hs 5 (by kernel_rfl) (by decide) (by decide)
      clear hs
      go_wp2
      exact ⟨rfl, Keeps.refl _ _, by (show _ = _; rfl), fun _ h => nomatch h⟩
    exact trivial
  case hS3 =>
    intro j v u u' hkj hjn h hz hb
    match j, hkj, hjn, h, hb with
    | 0, _, _, h, hb => exact h
    | 1, _, _, h, hb => exact h
    | 2, _, _, h, hb => exact h
    | 3, _, _, h, hb => exact h
    | 4, _, _, h, hb => exact (hb.block _ (by have := (Array.getElem?_eq_some_iff.1 h).1; exact this) (by rintro ⟨q, hq, hm⟩; simp at hm <;> omega)).trans h
    | 5, _, _, h, hb => exact (hb.block _ (by have := (Array.getElem?_eq_some_iff.1 h).1; exact this) (by rintro ⟨q, hq, hm⟩; simp at hm <;> omega)).trans h
    | 6, _, _, h, hb => exact h
    | q + 7, _, hq, _, _ => exact absurd hq (by omega)
  intro v u hu hs hap
  have s_0 : v 0 = _ := hs 0 (by decide) (by decide)
  have s_1 : v 1 = _ := hs 1 (by decide) (by decide)
  have s_2 : v 2 = _ := hs 2 (by decide) (by decide)
  have s_3 : v 3 = _ := hs 3 (by decide) (by decide)
  have s_4 : u.heap[w.heap.size + 1]? = some (.cells zeroC 27 (0, 0)) := hs 4 (by decide) (by decide)
  have s_5 : u.heap[w.heap.size + 2]? = some (.cells zeroC 27 (0, 0)) := hs 5 (by decide) (by decide)
  have s_6 : v 6 = _ := hs 6 (by decide) (by decide)
  simp only [putAll, dstOf]
  have S4 := Lib.hid s_4
  have S5 := Lib.hid s_5
  have HKU := Lib.hid hu
  have HR3 := Lib.hid ((hu.block (w.heap.size + 3) (by omega) (by rintro ⟨q, hm⟩; simp at hm <;> omega)).trans C.out.r3)
  clear hs hap s_0 s_1 s_4 s_5 hu
  refine rest_lineL 7 8 [_] rfl (by kernel_rfl) (by decide) (by decide) (by kernel_rfl) ?_
  simp only [s_3, s_6, Act.put, List.getElem?_toArray, List.getElem?_cons_succ, List.getElem?_cons_zero, Option.bind_some, List.setIfInBounds_toArray, List.set_cons_succ, List.set_cons_zero, Nat.reduceAdd]
  clear s_2 s_3 s_6
  go_wp2_with (refine wpList_store_row rfl 27 (.tmp 5) (.tmp 67) rfl (w.heap.size + 3) zeroC rfl rfl _ _ HR3.out size_term rfl (one4 _ _ _ _ _ _) ?_)
  refine then_rest (rest_end (by decide) ?_)
  have hr1 := (setRow_other u (w.heap.size + 3) (w.heap.size + 1) zeroC (by omega)).trans S4.out
  have hr2 := (setRow_other u (w.heap.size + 3) (w.heap.size + 2) zeroC (by omega)).trans S5.out
  have hr3 := setRow_heap u (w.heap.size + 3) _ (zeroC : Array Value) _ _ HR3.out
  have hbu : Below w.heap.size w u := C.out.bel.trans ⟨HKU.out.os, HKU.out.tape, HKU.out.output, by have := HKU.out.size; omega, fun b hb => HKU.out.block b (by omega) (by rintro ⟨q, hm⟩; simp at hm <;> omega)⟩
  have hpost : ClsPost P (clsT t) w (.returned (.tuple #[.agg zeroC, .agg zeroC, .int .i64 e, .agg zeroC])) (u.setRow (w.heap.size + 3) zeroC) := by
    rw [HRV.out]
    refine ⟨none, 0, none, 0, none, 0, rfl, zero_is _ _, zero_is _ _, HVW.out.imp (fun b h => h.elim (fun h => .inl h.1) fun h => .inr (by omega)) (fun b h hl => ?_), below_setRow hbu (by omega) _⟩
    have hb : b ≠ w.heap.size + 1 ∧ b ≠ w.heap.size + 2 ∧ b ≠ w.heap.size + 3 := by rcases h with h | h <;> omega
    exact (setRow_other _ _ _ _ hb.2.2).trans (HKU.out.block b hl (by rintro ⟨q, hm⟩; simp at hm <;> omega))
  go_wp2
  exact bodyPost_ret (v := .tuple #[.agg zeroC, .agg zeroC, .int .i64 e, .agg zeroC]) (results_four Try.results16 _ _ _ _ _ _ _ _ _ _ _ _ rfl rfl rfl rfl hr1 hr2 hr3 Try.underlying27 rfl (by kernel_rfl) (by kernel_rfl) (by kernel_rfl)) rfl hpost
end Go.Proofs.Ytmlceamcpelklaa.Tms
