
/-
  Layer 19's reference: times, walked over the program.
-/
import Derived.Test.YtibjcfbilkkmkaaPut
namespace Go.Proofs.Ytibjcfbilkkmkaa.Tms
open Go Go.RowKit Go.Proofs.Ytibjcfbilkkmkaa.Reg Go.Proofs.Ytibjcfbilkkmkaa.Rws Go.Proofs.Ytibjcfbilkkmkaa.Cod
set_option linter.unusedVariables false

mutual
/-- how often a variable is in a term -/
def timesT (x : Int) : Tm → Nat
  | .mk k n _ a => if k = 1 ∧ n = x then 1 else timesL x a
def timesL (x : Int) : List Tm → Nat
  | [] => 0
  | t :: l => timesT x t + timesL x l
end
theorem timesL_app (x : Int) : ∀ l m : List Tm, timesL x (l ++ m) = timesL x l + timesL x m
  | [], m => by simp [timesL]
  | t :: l, m => by simp only [List.cons_append, timesL, timesL_app x l m]; omega
theorem timesL_take (x : Int) (ts : List Tm) (q : Nat) (h : q < ts.length) : timesL x (ts.take (q + 1)) = timesL x (ts.take q) + timesT x ts[q] := by
  rw [List.take_succ_eq_append_getElem h, timesL_app]
  simp [timesL]
mutual
theorem times_le (x : Int) : ∀ t : Tm, timesT x t ≤ t.size
  | .mk k n s a => by
    have := timesL_le x a
    unfold timesT
    simp only [Tm.size]
    split <;> omega
theorem timesL_le (x : Int) : ∀ l : List Tm, timesL x l ≤ sizeL l
  | [] => by simp [timesL]
  | t :: l => by
    have h1 := times_le x t
    have h2 := timesL_le x l
    simp only [timesL, sizeL]
    omega
end
mutual
theorem times_occ (x : Int) : ∀ t : Tm, mayT t = true → timesT x t = (occT t).count x
  | .mk k n s a, h => by
    have ha := timesL_occ x a (by simp only [mayT, Bool.and_eq_true] at h; exact h.2)
    unfold timesT occT
    by_cases k1 : k = 1
    · have h0 : a = [] := may_var h k1
      subst h0
      rw [if_pos k1]
      by_cases e : n = x
      · rw [if_pos ⟨k1, e⟩, e]; simp [occL]
      · rw [if_neg fun e' => e e'.2]; simp [timesL, occL, e]
    · rw [if_neg fun e => k1 e.1, if_neg k1, ha]
theorem timesL_occ (x : Int) : ∀ l : List Tm, mayTL l = true → timesL x l = (occL l).count x
  | [], _ => by simp [timesL, occL]
  | t :: l, h => by
    simp only [mayTL, Bool.and_eq_true] at h
    simp only [timesL, occL, List.count_append, times_occ x t h.1, timesL_occ x l h.2]
end
def TmsRel (x : Int) (ts : List Tm) (w : World) (vk vi : Value) (wr : World) : Prop := ∃ q : Nat, q ≤ ts.length ∧ vi = .int .i64 q ∧ vk = .int .i64 (timesL x (ts.take q) : Nat) ∧ Below w.heap.size w wr

set_option maxRecDepth 100000 in
set_option maxHeartbeats 4000000 in
theorem ref_times (x : Int) (N : Nat) : ∀ (t : Tm) (v : Value) (P : Nat → Prop) (w : World), t.size ≤ N → t.size ≤ 1000000000 → IsTm w P v t →
    Calls Try.prog 48 #[v, .int .i64 x] w fun e w' => e = .returned (.int .i64 (timesT x t : Nat)) ∧ Below w.heap.size w w' := by
  induction N with
  | zero => intro t v P w hN; have := size_pos t; omega
  | succ N ih =>
    intro t v P w hN hM h1
    have IH := Lib.hid ih
    obtain ⟨a, cap, rfl⟩ := h1.form
    have s1 := h1.args
    obtain ⟨k, n, s, ts⟩ := t
    simp only [Tm.k, Tm.n, Tm.s, Tm.args] at *
    have S1 := Lib.hid s1
    have hlen : ts.length ≤ 1000000000 := by have := len_le ts; simp only [Tm.size] at hM; omega
    have HN : Hid (sizeL ts ≤ N) := Lib.hid (by simp only [Tm.size] at hN; omega)
    have HM : Hid (sizeL ts ≤ 1000000000) := Lib.hid (by simp only [Tm.size] at hM; omega)
    have hal : Below w.heap.size w (w.alloc (.cells #[.int .i64 k, .int .i64 n, .string s, .slice a ts.length cap] 30)) := below_new _ _
    have HAL := Lib.hid hal
    clear h1 s1 hN hM ih
    by_cases e1 : k = 1 ∧ n = x
    · have b1 : (k == 1) = true := by simp [e1.1]
      have b2 : (n == x) = true := by simp [e1.2]
      have hr : timesT x (.mk k n s ts) = 1 := by rw [timesT, if_pos e1]
      rw [hr]
      clear hr e1 hal
      go_enter Try.func48, Try.ntmps48
      go_wp2
      go_ret
      exact ⟨rfl, HAL.out⟩
    have hr : timesT x (.mk k n s ts) = timesL x ts := by rw [timesT, if_neg e1]
    rw [hr]
    have hst : TmsRel x ts w (.int .i64 ((0 : Nat) : Int)) (.int .i64 ((0 : Nat) : Int)) (w.alloc (.cells #[.int .i64 k, .int .i64 n, .string s, .slice a ts.length cap] 30)) := ⟨0, by omega, rfl, by simp [timesL], hal⟩
    have HST := Lib.hid hst
    have hk : (k == 1) = false ∨ (k == 1) = true ∧ (n == x) = false := by
      by_cases k1 : k = 1
      · exact .inr ⟨by simp [k1], by simpa using fun e => e1 ⟨k1, e⟩⟩
      · exact .inl (by simpa using k1)
    clear hr e1 hal hst
    rcases hk with b1 | ⟨b1, b2⟩
    all_goals
      go_enter Try.func48, Try.ntmps48
      go_wp2
      generalize w.alloc (.cells #[.int .i64 k, .int .i64 n, .string s, .slice a ts.length cap] 30) = W0 at *
      go_loopw [5, 20] (fun vk vi wr => TmsRel x ts w vk vi wr) (fun _ vi _ => ts.length - (intOf vi).toNat)
      case atStart => exact HST.out
      case round =>
        obtain ⟨q, hq, rfl, rfl, hbl⟩ := hrel
        have HBL := Lib.hid hbl
        clear HST hbl
        by_cases hql : q < ts.length
        · obtain ⟨g1, o1, rfl, p1, m1⟩ := (S1.out.below HBL.out).at q hql
          obtain ⟨c1, d1, x10, x11, x12, x13, i1, l1⟩ := m1.read
          have h1s := size_mem hql
          have HX := Lib.hid (show ts[q].size ≤ N by have := HN.out; omega)
          have HX2 := Lib.hid (show ts[q].size ≤ 1000000000 by have := HM.out; omega)
          have hnx := timesL_take x ts q hql
          have h2 := timesL_le x (ts.take q)
          have h3 := sizeL_take ts q
          have h4 := times_le x ts[q]
          have hm1 : timesL x (ts.take q) ≤ 1000000000 := by have := HM.out; omega
          have hm2 : timesT x ts[q] ≤ 1000000000 := by have := HX2.out; omega
          have HNX := Lib.hid hnx
          have hbx := below_new wr (.cells #[.int .i64 ts[q].k, .int .i64 ts[q].n, .string ts[q].s, .slice c1 ts[q].args.length d1] 30 (0, 0))
          have I1 := Lib.hid (i1.below hbx)
          have HBX := Lib.hid hbx
          clear m1 i1 hnx h1s hbx h2 h3 h4
          generalize ts[q] = y at *
          generalize timesL x (ts.take q) = M at *
          have hin : (q : Int) < (ts.length : Int) := by omega
          have hin0 : (0 : Int) ≤ (q : Int) := by omega
          go_wp2_with (go_at_call 48
                       refine (IH.out y _ _ _ HX.out HX2.out I1.out).mono ?_
                       rintro e w9 ⟨rfl, hb9⟩
                       have HB9 := Lib.hid (HBL.out.trans ((HBX.out.trans (hb9.mono HBX.out.size)).mono HBL.out.size))
                       clear hb9 x10 x11 x12 x13 l1)
          go_roundw
          case rel => exact ⟨q + 1, by omega, by go_num, by rw [HNX.out]; go_num, HB9.out⟩
          case measure => simp [intOf]; omega
        · obtain rfl : q = ts.length := by omega
          have hin : decide ((ts.length : Int) < (ts.length : Int)) = false := by simp
          rw [List.take_length]
          go_wp2
          go_ret
          exact ⟨rfl, HBL.out⟩
end Go.Proofs.Ytibjcfbilkkmkaa.Tms
