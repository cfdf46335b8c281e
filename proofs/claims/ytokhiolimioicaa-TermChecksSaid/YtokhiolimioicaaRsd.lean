
/-
  The reference's Size, Deep, May and Check of a term, walked over the program (Size and Deep printed by gen_refsd.py).
-/
import Derived.Test.YtokhiolimioicaaTmP
import Derived.Test.YtokhiolimioicaaOrd
namespace Go.Proofs.Ytokhiolimioicaa.Tms
open Go Go.RowKit Go.Proofs.Ytokhiolimioicaa.Reg
set_option linter.unusedVariables false

theorem sizeL_succ' : ∀ (l : List Tm) (j : Nat) (h : j < l.length), sizeL (l.take (j + 1)) = sizeL (l.take j) + l[j].size
  | t :: l, 0, _ => by simp [sizeL]
  | t :: l, j + 1, h => by have := sizeL_succ' l j (by simpa using h); simp only [List.take_succ_cons, sizeL, List.getElem_cons_succ]; omega
theorem sizeL_le_take : ∀ (l : List Tm) (j : Nat), sizeL (l.take j) ≤ sizeL l
  | [], j => by simp [sizeL]
  | t :: l, 0 => by simp [sizeL]
  | t :: l, j + 1 => by have := sizeL_le_take l j; simp only [List.take_succ_cons, sizeL]; omega
theorem deepL_take : ∀ (l : List Tm) (j : Nat) (h : j < l.length), deepL (l.take (j + 1)) = max (deepL (l.take j)) (deepT l[j])
  | t :: l, 0, _ => by simp [deepL]
  | t :: l, j + 1, h => by have := deepL_take l j (by simpa using h); simp only [List.take_succ_cons, deepL, List.getElem_cons_succ, this]; omega
theorem deepL_le_take : ∀ (l : List Tm) (j : Nat), deepL (l.take j) ≤ deepL l
  | [], j => by simp [deepL]
  | t :: l, 0 => by simp [deepL]
  | t :: l, j + 1 => by have := deepL_le_take l j; simp only [List.take_succ_cons, deepL]; omega

set_option maxHeartbeats 1600000 in
theorem ref_size (N : Nat) : ∀ (t : Tm) (v : Value) (P : Nat → Prop) (w : World), t.size ≤ N → t.size ≤ 1000000000 → IsTm w P v t →
    Calls Try.prog 20 #[v] w fun e w' => e = .returned (.int .i64 t.size) ∧ Below w.heap.size w w' := by
  induction N with
  | zero => intro t v P w hN; have := size_pos t; omega
  | succ N ih =>
    intro t v P w hN hM h
    have IH := Lib.hid ih
    clear ih
    obtain ⟨a, c, rfl⟩ := h.form
    have hs := h.args
    have hsz : sizeL t.args + 1 = t.size := by obtain ⟨k1, n1, s1, a1⟩ := t; simp [Tm.size, Tm.args]
    have hdz : deepL t.args + 1 = deepT t := by obtain ⟨k1, n1, s1, a1⟩ := t; simp [deepT, Tm.args]
    have hdl := deepL_le t.args
    have hlen : t.args.length ≤ 1000000000 := by have := len_le t.args; omega
    have hb := (Below.refl w.heap.size w).alloc (Nat.le_refl _) (.cells #[.int .i64 t.k, .int .i64 t.n, .string t.s, .slice a t.args.length c] 27 (0, 0))
    have hw : (w.alloc (.cells #[.int .i64 t.k, .int .i64 t.n, .string t.s, .slice a t.args.length c] 27 (0, 0))).heap.size = w.heap.size + 1 := by simp
    have S1 := Lib.hid hs
    have HB := Lib.hid hb
    have HW := Lib.hid hw
    have HSZ := Lib.hid hsz
    have HDZ := Lib.hid hdz
    clear hs hb hsz hdz h hw
    go_enter Try.func20, Try.ntmps20
    go_wp2
    generalize w.alloc (.cells #[.int .i64 t.k, .int .i64 t.n, .string t.s, .slice a t.args.length c] 27 (0, 0)) = W at *
    have hst : ∃ q : Nat, q ≤ t.args.length ∧ (.int .i64 1 : Value) = .int .i64 (1 + (sizeL (t.args.take q) : Nat)) ∧ (.int .i64 0 : Value) = .int .i64 q ∧ Below W.heap.size W W := ⟨0, by omega, by simp [sizeL], rfl, Below.refl _ _⟩
    have HST := Lib.hid hst
    clear hst
    go_loopw [3, 9] (fun n c wr => ∃ q : Nat, q ≤ t.args.length ∧ n = .int .i64 (1 + (sizeL (t.args.take q) : Nat)) ∧ c = .int .i64 q ∧ Below W.heap.size W wr) (fun _ c _ => t.args.length - (intOf c).toNat)
    case atStart => exact HST.out
    case round =>
      obtain ⟨q, hq, rfl, rfl, hbl⟩ := hrel
      clear HST
      by_cases hql : q < t.args.length
      · have hbl0 : Below w.heap.size w wr := HB.out.trans (hbl.mono HB.out.size)
        obtain ⟨g1, o1, rfl, p1, m1⟩ := (S1.out.below hbl0).at q hql
        obtain ⟨c1, d1, x10, x11, x12, x13, i1, l1⟩ := m1.read
        have hin : (q : Int) < (t.args.length : Int) := by omega
        have hin0 : (0 : Int) ≤ (q : Int) := by omega
        have hq1 := size_mem hql
        have hq2 := sizeL_succ' t.args q hql
        have hq3 := deepL_take t.args q hql
        have hq4 := sizeL_le_take t.args (q + 1)
        have hq5 := deepL_le_take t.args (q + 1)
        have hq6 := deep_le t.args[q]
        have HQ1 := Lib.hid hq1
        have HQ2 := Lib.hid hq2
        have HQ3 := Lib.hid hq3
        have hsz := HSZ.out
        have hdz := HDZ.out
        have hbd : (1 : Int) + (sizeL (t.args.take q) : Int) + (t.args[q].size : Int) ≤ 2000000000 := by omega
        clear hq1 hq2 hq3 m1
        generalize t.args[q] = x at *
        have hba := (Below.refl wr.heap.size wr).alloc (Nat.le_refl _) (.cells #[.int .i64 x.k, .int .i64 x.n, .string x.s, .slice c1 x.args.length d1] 27 (0, 0))
        have hwa : (wr.alloc (.cells #[.int .i64 x.k, .int .i64 x.n, .string x.s, .slice c1 x.args.length d1] 27 (0, 0))).heap.size = wr.heap.size + 1 := by simp
        have HBA := Lib.hid hba
        have HWA := Lib.hid hwa
        have I1 := Lib.hid i1
        have HBL := Lib.hid hbl
        clear hba hwa i1 hbl hbl0
        go_wp2_with (refine (IH.out x _ _ _ (by have := HQ1.out; omega) (by have := HQ1.out; omega) (I1.out.below HBA.out)).mono ?_; rintro e9 w9 ⟨rfl, hb9⟩; have HB9 := Lib.hid (HBL.out.trans ((HBA.out.trans (hb9.mono (by have := HWA.out; omega))).mono HBL.out.size)); clear hb9)
        go_roundw
        case rel => exact ⟨q + 1, by omega, by first | (simp; have := HQ2.out; have := HQ3.out; omega) | (have h2 := HQ2.out; have h3 := HQ3.out; congr 1; omega), by go_num, HB9.out⟩
        case measure => simp [intOf]; omega
      · have hqe : q = t.args.length := by omega
        subst hqe
        have hfin : Below w.heap.size w wr := HB.out.trans (hbl.mono HB.out.size)
        have HF := Lib.hid hfin
        have hsz := HSZ.out
        have hdz := HDZ.out
        clear hbl hfin
        have hbd : (deepL t.args : Int) ≤ 1000000000 := by omega
        rw [List.take_length]
        go_wp2
        go_ret
        exact ⟨by first | (simp; omega) | (congr 2; omega), HF.out⟩

set_option maxHeartbeats 1600000 in
theorem ref_deep (N : Nat) : ∀ (t : Tm) (v : Value) (P : Nat → Prop) (w : World), t.size ≤ N → t.size ≤ 1000000000 → IsTm w P v t →
    Calls Try.prog 22 #[v] w fun e w' => e = .returned (.int .i64 (deepT t)) ∧ Below w.heap.size w w' := by
  induction N with
  | zero => intro t v P w hN; have := size_pos t; omega
  | succ N ih =>
    intro t v P w hN hM h
    have IH := Lib.hid ih
    clear ih
    obtain ⟨a, c, rfl⟩ := h.form
    have hs := h.args
    have hsz : sizeL t.args + 1 = t.size := by obtain ⟨k1, n1, s1, a1⟩ := t; simp [Tm.size, Tm.args]
    have hdz : deepL t.args + 1 = deepT t := by obtain ⟨k1, n1, s1, a1⟩ := t; simp [deepT, Tm.args]
    have hdl := deepL_le t.args
    have hlen : t.args.length ≤ 1000000000 := by have := len_le t.args; omega
    have hb := (Below.refl w.heap.size w).alloc (Nat.le_refl _) (.cells #[.int .i64 t.k, .int .i64 t.n, .string t.s, .slice a t.args.length c] 27 (0, 0))
    have hw : (w.alloc (.cells #[.int .i64 t.k, .int .i64 t.n, .string t.s, .slice a t.args.length c] 27 (0, 0))).heap.size = w.heap.size + 1 := by simp
    have S1 := Lib.hid hs
    have HB := Lib.hid hb
    have HW := Lib.hid hw
    have HSZ := Lib.hid hsz
    have HDZ := Lib.hid hdz
    clear hs hb hsz hdz h hw
    go_enter Try.func22, Try.ntmps22
    go_wp2
    generalize w.alloc (.cells #[.int .i64 t.k, .int .i64 t.n, .string t.s, .slice a t.args.length c] 27 (0, 0)) = W at *
    have hst : ∃ q : Nat, q ≤ t.args.length ∧ (.int .i64 0 : Value) = .int .i64 (0 + (deepL (t.args.take q) : Nat)) ∧ (.int .i64 0 : Value) = .int .i64 q ∧ Below W.heap.size W W := ⟨0, by omega, by simp [deepL], rfl, Below.refl _ _⟩
    have HST := Lib.hid hst
    clear hst
    go_loopw [3, 9] (fun n c wr => ∃ q : Nat, q ≤ t.args.length ∧ n = .int .i64 (0 + (deepL (t.args.take q) : Nat)) ∧ c = .int .i64 q ∧ Below W.heap.size W wr) (fun _ c _ => t.args.length - (intOf c).toNat)
    case atStart => exact HST.out
    case round =>
      obtain ⟨q, hq, rfl, rfl, hbl⟩ := hrel
      clear HST
      by_cases hql : q < t.args.length
      · have hbl0 : Below w.heap.size w wr := HB.out.trans (hbl.mono HB.out.size)
        obtain ⟨g1, o1, rfl, p1, m1⟩ := (S1.out.below hbl0).at q hql
        obtain ⟨c1, d1, x10, x11, x12, x13, i1, l1⟩ := m1.read
        have hin : (q : Int) < (t.args.length : Int) := by omega
        have hin0 : (0 : Int) ≤ (q : Int) := by omega
        have hq1 := size_mem hql
        have hq2 := sizeL_succ' t.args q hql
        have hq3 := deepL_take t.args q hql
        have hq4 := sizeL_le_take t.args (q + 1)
        have hq5 := deepL_le_take t.args (q + 1)
        have hq6 := deep_le t.args[q]
        have HQ1 := Lib.hid hq1
        have HQ2 := Lib.hid hq2
        have HQ3 := Lib.hid hq3
        have hsz := HSZ.out
        have hdz := HDZ.out
        have hbd : (1 : Int) + (sizeL (t.args.take q) : Int) + (t.args[q].size : Int) ≤ 2000000000 := by omega
        clear hq1 hq2 hq3 m1
        generalize t.args[q] = x at *
        have hba := (Below.refl wr.heap.size wr).alloc (Nat.le_refl _) (.cells #[.int .i64 x.k, .int .i64 x.n, .string x.s, .slice c1 x.args.length d1] 27 (0, 0))
        have hwa : (wr.alloc (.cells #[.int .i64 x.k, .int .i64 x.n, .string x.s, .slice c1 x.args.length d1] 27 (0, 0))).heap.size = wr.heap.size + 1 := by simp
        have HBA := Lib.hid hba
        have HWA := Lib.hid hwa
        have I1 := Lib.hid i1
        have HBL := Lib.hid hbl
        clear hba hwa i1 hbl hbl0
        go_wp2_with (refine (IH.out x _ _ _ (by have := HQ1.out; omega) (by have := HQ1.out; omega) (I1.out.below HBA.out)).mono ?_; rintro e9 w9 ⟨rfl, hb9⟩; have HB9 := Lib.hid (HBL.out.trans ((HBA.out.trans (hb9.mono (by have := HWA.out; omega))).mono HBL.out.size)); clear hb9)
        go_roundw
        case rel => exact ⟨q + 1, by omega, by first | (simp; have := HQ2.out; have := HQ3.out; omega) | (have h2 := HQ2.out; have h3 := HQ3.out; congr 1; omega), by go_num, HB9.out⟩
        case measure => simp [intOf]; omega
      · have hqe : q = t.args.length := by omega
        subst hqe
        have hfin : Below w.heap.size w wr := HB.out.trans (hbl.mono HB.out.size)
        have HF := Lib.hid hfin
        have hsz := HSZ.out
        have hdz := HDZ.out
        clear hbl hfin
        have hbd : (deepL t.args : Int) ≤ 1000000000 := by omega
        rw [List.take_length]
        go_wp2
        go_ret
        exact ⟨by first | (simp; omega) | (congr 2; omega), HF.out⟩
end Go.Proofs.Ytokhiolimioicaa.Tms
