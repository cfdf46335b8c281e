
/-
  GoalClauses, walked over the program.
-/
import Derived.Test.YtmlceamcpelklaaAl6
import Derived.Test.YtmlceamcpelklaaPl5
import Derived.Test.YtmlceamcpelklaaChn
import Derived.Test.YtmlceamcpelklaaNumP
namespace Go.Proofs.Ytmlceamcpelklaa.Tms
open Go Go.RowKit Go.Proofs.Ytmlceamcpelklaa.Reg
set_option linter.unusedVariables false

/-- three rows, one behind the other -/
theorem three_rows (w : World) (a b c : Obj) : ((((w.alloc a).alloc b).alloc c).heap[w.heap.size]? = some a) ∧ ((((w.alloc a).alloc b).alloc c).heap[w.heap.size + 1]? = some b) ∧ ((((w.alloc a).alloc b).alloc c).heap[w.heap.size + 1 + 1]? = some c) ∧
    Below w.heap.size w (((w.alloc a).alloc b).alloc c) ∧ (((w.alloc a).alloc b).alloc c).heap.size = w.heap.size + 1 + 1 + 1 := by
  refine ⟨?_, ?_, ?_, (((Below.refl _ _).alloc (Nat.le_refl _) _).alloc (by simp) _).alloc (by simp; omega) _, by simp⟩
  · rw [heap_alloc_old _ _ (by simp; omega), heap_alloc_old _ _ (by simp), heap_alloc_new]
  · have := heap_alloc2_old (w.alloc a) b c; simpa using this
  · have := heap_alloc2_new (w.alloc a) b c; simpa using this

set_option maxRecDepth 100000 in
set_option maxHeartbeats 8000000 in
theorem law_clauses (L : List Pt) (v1 : Value) (w : World) (h1 : PtSl w v1 L) : Calls Try.prog 3 #[v1] w (Says true w) := by
  obtain ⟨a1, c1, rfl, hc1, hm1⟩ := h1.form
  have H1 := Lib.hid h1
  clear h1
  by_cases g1 : 60 < L.length
  · have d1 : decide (60 < (L.length : Int)) = true := by simp; omega
    go_enter Try.func3, Try.ntmps3
    go_wp2_with (first
      | (go_at_call 14; refine (l5_alive _).mono ?_; rintro e1 w1 ⟨rfl, hb1⟩; have HB := Lib.hid hb1; clear hb1)
      | (refine (ref_great L _ _ (H1.out.below HB.out)).mono ?_; rintro e2 w2 ⟨rfl, rfl⟩))
    go_ret
    exact ⟨rfl, HB.out⟩
  have d1 : decide (60 < (L.length : Int)) = false := by simp; omega
  have z1 := goodT_size L
  obtain ⟨p1, p2⟩ := clause_law L (by omega)
  have P1 := Lib.hid p1
  have P2 := Lib.hid p2
  clear p1 p2
  go_enter Try.func3, Try.ntmps3
  go_wp2_with fail
  refine (l5_alive _).mono ?_; rintro e1 w1 ⟨rfl, hb1⟩; have HB := Lib.hid hb1; clear hb1
  go_wp2_with fail
  refine (ref_great L _ _ (H1.out.below HB.out)).mono ?_; rintro e2 w2 ⟨rfl, rfl⟩
  go_wp2_with fail
  refine (ref_good L _ _ (by omega) (H1.out.below HB.out)).mono ?_
  rintro e3 w3 ⟨v3, rfl, hi3, hb3⟩
  have HX := Lib.hid hi3.any
  have HB3 := Lib.hid (HB.out.trans (hb3.mono HB.out.size))
  clear hi3 hb3 HB H1
  generalize goodT L = X at *
  go_wp2_with fail
  refine (goal_Clause X _ _ _ (by omega) HX.out).mono ?_
  have zc := clsT_size X
  generalize clsT X = RC at *
  obtain ⟨CH, CB, eC, CW⟩ := RC
  simp only [ClsPost]
  rintro e4 w4 ⟨qh, ch, qb, cb, qw, cw, rfl, hih, hib, -, hb4⟩
  obtain ⟨r0, r1, r2, hb5, hz5⟩ := three_rows w4 (rowT CH qh ch) (rowT CB qb cb) (rowT CW qw cw)
  have HB5 := Lib.hid (HB3.out.trans ((hb4.trans (hb5.mono hb4.size)).mono HB3.out.size))
  have HIH := Lib.hid ((hih.imp (P' := AnyB) (fun _ _ => trivial) fun _ _ _ => rfl).below hb5)
  have HIB := Lib.hid ((hib.imp (P' := AnyB) (fun _ _ => trivial) fun _ _ _ => rfl).below hb5)
  have R0 := Lib.hid r0
  have R1 := Lib.hid r1
  have R2 := Lib.hid r2
  have HZ5 := Lib.hid hz5
  clear hih hib hb4 hb5 r0 r1 r2 hz5 HB3 HX
  by_cases ce : eC = 0
  case neg =>
    have b1 : (eC != 0) = true := by simpa using ce
    obtain ⟨q1, q2, q3⟩ := P1.out ce
    simp only at q1 q2 q3
    have b2 : (CH.k == 0) = true := by rw [q1]; rfl
    have b3 : (CB.k == 0) = true := by rw [q2]; rfl
    have b4 : ((eC == 13) == (CW.k != 0)) = true := by
      by_cases h : eC = 13
      · have := q3.1 h; simp [h, this]
      · have : CW.k = 0 := Classical.byContradiction fun hn => h (q3.2 hn)
        simp [h, this]
    have B4 := Lib.hid b4
    clear q1 q2 q3 b4 P1 P2 ce
    obtain ⟨x0, x1, x2, x3⟩ := row4 R0.out
    obtain ⟨y0, y1, y2, y3⟩ := row4 R1.out
    obtain ⟨z0, z1, z2, z3⟩ := row4 R2.out
    clear R0 R1 R2 HIH HIB x1 x2 x3 y1 y2 y3 z1 z2 z3
    go_wp2
    go_ret
    exact says B4.out HB5.out
  · subst ce
    obtain ⟨q1, q2, q3⟩ := P2.out rfl
    simp only at q1 q2 q3
    simp only at zc
    have Q1 := Lib.hid q1
    have hcz : (compT (⟨#[58, 45]⟩ : ByteArray) [CH, CB]).size = CH.size + CB.size + 1 := by simp [compT, Tm.size, sizeL]
    have SZ : Hid (CH.size ≤ 1000000000 ∧ CB.size ≤ 1000000000 ∧ (compT (⟨#[58, 45]⟩ : ByteArray) [CH, CB]).size ≤ 100000000) := Lib.hid ⟨by omega, by omega, by omega⟩
    have b65 : ((CH.k == 3) || (CH.k == 4)) = true := by rcases q2 with h | h <;> simp [h]
    have b76 : decide (0 ≤ kindT CB) = true := by simpa using q3
    have K := Lib.hid b76
    clear P1 P2 q1 q3 zc z1 hcz
    obtain ⟨x0, x1, x2, x3⟩ := row4 R0.out
    obtain ⟨y0, y1, y2, y3⟩ := row4 R1.out
    go_wp2_with fail
    generalize ((w4.alloc (rowT CH qh ch)).alloc (rowT CB qb cb)).alloc (rowT CW qw cw) = W at *
    have i6 := row2 (w := W) (x := CH) (y := CB) (a := qh) (c := ch) (a' := qb) (c' := cb) HIH.out HIB.out
    have hb6 : Below W.heap.size W (W.alloc (.cells #[.int .i64 CH.k, .int .i64 CH.n, .string CH.s, .slice qh CH.args.length ch, .int .i64 CB.k, .int .i64 CB.n, .string CB.s, .slice qb CB.args.length cb] 27 (0, 0))) := (Below.refl _ _).alloc (Nat.le_refl _) _
    refine (l5_f _ _ _ _ _).mono ?_
    rintro e7 w7 ⟨rfl, hb7⟩
    rw [HZ5.out] at i6
    have I7 : Hid (IsTm w7 AnyB (compV (⟨#[58, 45]⟩ : ByteArray) (some ⟨w4.heap.size + 1 + 1 + 1, 0, none⟩) 2 2) (compT (⟨#[58, 45]⟩ : ByteArray) [CH, CB])) := Lib.hid (comp_is (l := [CH, CB]) (i6.below hb7))
    have HB7 := Lib.hid (hb6.trans (hb7.mono (by simp)))
    clear i6 hb6 hb7 x0 x1 x2 x3 y0 y1 y2 y3
    go_wp2_with fail
    have hgc := goal_Clause (compT (⟨#[58, 45]⟩ : ByteArray) [CH, CB]) _ AnyB _ SZ.out.2.2 I7.out
    rw [Q1.out] at hgc
    refine hgc.mono ?_
    clear hgc
    simp only [ClsPost]
    rintro e8 w8 ⟨qx, cx, qy, cy, qu, cu, rfl, hix, hiy, -, hb8⟩
    obtain ⟨s0, s1, -, hb9, hz9⟩ := three_rows w8 (rowT CH qx cx) (rowT CB qy cy) (rowT zeroTm qu cu)
    have HB9 := Lib.hid (HB7.out.trans ((hb8.trans (hb9.mono hb8.size)).mono HB7.out.size))
    have IX := Lib.hid ((hix.imp (P' := AnyB) (fun _ _ => trivial) fun _ _ _ => rfl).below hb9)
    have IY := Lib.hid ((hiy.imp (P' := AnyB) (fun _ _ => trivial) fun _ _ _ => rfl).below hb9)
    have S0 := Lib.hid s0
    have S1 := Lib.hid s1
    have HZ9 := Lib.hid hz9
    clear hix hiy hb8 hb9 s0 s1 hz9 HB7 I7
    have HR0 := Lib.hid ((HB9.out.block _ (by have := HZ5.out; omega)).trans R0.out)
    have HR1 := Lib.hid ((HB9.out.block _ (by have := HZ5.out; omega)).trans R1.out)
    have HH := Lib.hid (HIH.out.below HB9.out)
    have HC := Lib.hid (HIB.out.below HB9.out)
    have HBW := Lib.hid (HB5.out.trans (HB9.out.mono HB5.out.size))
    have HL : Hid (w4.heap.size + 1 < (((w8.alloc (rowT CH qx cx)).alloc (rowT CB qy cy)).alloc (rowT zeroTm qu cu)).heap.size ∧ w8.heap.size + 1 < (((w8.alloc (rowT CH qx cx)).alloc (rowT CB qy cy)).alloc (rowT zeroTm qu cu)).heap.size) := Lib.hid ⟨by have := HB9.out.size; have := HZ5.out; omega, by have := HZ9.out; omega⟩
    clear HZ5 HZ9 HB9 R0 R1 R2 HIH HIB HB5
    obtain ⟨x0, x1, x2, x3⟩ := row4 HR0.out
    obtain ⟨y0, y1, y2, y3⟩ := row4 S0.out
    go_wp2_with fail
    generalize ((w8.alloc (rowT CH qx cx)).alloc (rowT CB qy cy)).alloc (rowT zeroTm qu cu) = W9 at *
    refine (ref_same _ CH CH _ _ _ _ _ (Nat.le_refl _) SZ.out.1 IX.out HH.out).mono ?_
    rintro e10 w10 ⟨rfl, hb10⟩
    rw [sameT_self]
    have HB10 := Lib.hid hb10
    clear hb10 x0 x1 x2 x3 y0 y1 y2 y3
    obtain ⟨x0, x1, x2, x3⟩ := row4 ((HB10.out.block _ (by have := HL.out; omega)).trans HR1.out)
    obtain ⟨y0, y1, y2, y3⟩ := row4 ((HB10.out.block _ (by have := HL.out; omega)).trans S1.out)
    go_wp2_with fail
    refine (ref_same _ CB CB _ _ _ _ _ (Nat.le_refl _) SZ.out.2.1 (IY.out.below HB10.out) (HC.out.below HB10.out)).mono ?_
    rintro e11 w11 ⟨rfl, hb11⟩
    rw [sameT_self]
    have HB11 := Lib.hid (HB10.out.trans (hb11.mono HB10.out.size))
    clear hb11 x0 x1 x2 x3 y0 y1 y2 y3
    obtain ⟨x0, x1, x2, x3⟩ := row4 ((HB11.out.block _ (by have := HL.out; omega)).trans HR1.out)
    obtain ⟨y0, y1, y2, y3⟩ := row4 ((HB11.out.block _ (by have := HL.out; omega)).trans HR0.out)
    clear y1 y2 y3
    by_cases k3 : CH.k = 3
    · have b1 : (CH.k == 3) = true := by simp [k3]
      go_wp2_with fail
      refine (goal_Kind CB _ _ _ SZ.out.2.1 (HC.out.below HB11.out)).mono ?_
      rintro e12 w12 ⟨rfl, hb12⟩
      have HF := Lib.hid (HBW.out.trans ((HB11.out.trans (hb12.mono HB11.out.size)).mono HBW.out.size))
      clear hb12
      go_wp2
      go_ret
      exact says (by simp) HF.out
    · have b1 : (CH.k == 3) = false := by simp [k3]
      have b2 : (CH.k == 4) = true := by simpa [b1] using b65
      go_wp2_with fail
      refine (goal_Kind CB _ _ _ SZ.out.2.1 (HC.out.below HB11.out)).mono ?_
      rintro e12 w12 ⟨rfl, hb12⟩
      have HF := Lib.hid (HBW.out.trans ((HB11.out.trans (hb12.mono HB11.out.size)).mono HBW.out.size))
      clear hb12
      go_wp2
      go_ret
      exact says (by simp) HF.out
end Go.Proofs.Ytmlceamcpelklaa.Tms
