
/-
  The reference's Size, Deep, May and Check of a term, walked over the program (Size and Deep printed by gen_refsd.py).
  The reference's May and Check of a term, walked over the program (May printed by gen_rmay.py).
-/
import Derived.Test.YtkhchmgdaolojaaDoorGmy
import Derived.Test.YtkhchmgdaolojaaDoorVars
namespace Go.Proofs.YtkhchmgdaolojaaDoor.Tms
open Go Go.RowKit Go.Proofs.YtkhchmgdaolojaaDoor.Reg
set_option linter.unusedVariables false

theorem sizeL_succ' : ∀ (l : List Tm) (j : Nat) (h : j < l.length), sizeL (l.take (j + 1)) = sizeL (l.take j) + l[j].size
  | t :: l, 0, _ => by simp [sizeL]
  | t :: l, j + 1, h => by have := sizeL_succ' l j (by simpa using h); simp only [List.take_succ_cons, sizeL, List.getElem_cons_succ]; omega
theorem sizeL_le_take : ∀ (l : List Tm) (j : Nat), sizeL (l.take j) ≤ sizeL l
  | [], j => by simp [sizeL]
  | t :: l, 0 => by simp [sizeL]
  | t :: l, j + 1 => by have := sizeL_le_take l j; simp only [List.take_succ_cons, sizeL]; omega
theorem deepL_take : ∀ (l : List Tm) (j : Nat) (h : j < l.length), deepL (l.take (j + 1)) = max (deepL (l.take j)) (deepT l[j])
  | t :: l, 0, _ => by simp [deepL]
  | t :: l, j + 1, h => by have := deepL_take l j (by simpa using h); simp only [List.take_succ_cons, deepL, List.getElem_cons_succ, this]; omega
theorem deepL_le_take : ∀ (l : List Tm) (j : Nat), deepL (l.take j) ≤ deepL l
  | [], j => by simp [deepL]
  | t :: l, 0 => by simp [deepL]
  | t :: l, j + 1 => by have := deepL_le_take l j; simp only [List.take_succ_cons, deepL]; omega

set_option maxHeartbeats 1600000 in
theorem ref_size (N : Nat) : ∀ (t : Tm) (v : Value) (P : Nat → Prop) (w : World), t.size ≤ N → t.size ≤ 1000000000 → IsTm w P v t →
    Calls Tryd.prog 47 #[v] w fun e w' => e = .returned (.int .i64 t.size) ∧ Below w.heap.size w w' := by
  induction N with
  | zero => intro t v P w hN; have := size_pos t; omega
  | succ N ih =>
    intro t v P w hN hM h
    have IH := Lib.hid ih
    clear ih
    obtain ⟨a, c, rfl⟩ := h.form
    have hs := h.args
    have hsz : sizeL t.args + 1 = t.size := by obtain ⟨k1, n1, s1, a1⟩ := t; simp [Tm.size, Tm.args]
    have hdz : deepL t.args + 1 = deepT t := by obtain ⟨k1, n1, s1, a1⟩ := t; simp [deepT, Tm.args]
    have hdl := deepL_le t.args
    have hlen : t.args.length ≤ 1000000000 := by have := len_le t.args; omega
    have hb := (Below.refl w.heap.size w).alloc (Nat.le_refl _) (.cells #[.int .i64 t.k, .int .i64 t.n, .string t.s, .slice a t.args.length c] 28 (0, 0))
    have hw : (w.alloc (.cells #[.int .i64 t.k, .int .i64 t.n, .string t.s, .slice a t.args.length c] 28 (0, 0))).heap.size = w.heap.size + 1 := by simp
    have S1 := Lib.hid hs
    have HB := Lib.hid hb
    have HW := Lib.hid hw
    have HSZ := Lib.hid hsz
    have HDZ := Lib.hid hdz
    clear hs hb hsz hdz h hw
    go_enter Tryd.func47, Tryd.ntmps47
    go_wp2
    generalize w.alloc (.cells #[.int .i64 t.k, .int .i64 t.n, .string t.s, .slice a t.args.length c] 28 (0, 0)) = W at *
    have hst : ∃ q : Nat, q ≤ t.args.length ∧ (.int .i64 1 : Value) = .int .i64 (1 + (sizeL (t.args.take q) : Nat)) ∧ (.int .i64 0 : Value) = .int .i64 q ∧ Below W.heap.size W W := ⟨0, by omega, by simp [sizeL], rfl, Below.refl _ _⟩
    have HST := Lib.hid hst
    clear hst
    go_loopw [3, 9] (fun n c wr => ∃ q : Nat, q ≤ t.args.length ∧ n = .int .i64 (1 + (sizeL (t.args.take q) : Nat)) ∧ c = .int .i64 q ∧ Below W.heap.size W wr) (fun _ c _ => t.args.length - (intOf c).toNat)
    case atStart => exact HST.out
    case round =>
      obtain ⟨q, hq, rfl, rfl, hbl⟩ := hrel
      clear HST
      by_cases hql : q < t.args.length
      · have hbl0 : Below w.heap.size w wr := HB.out.trans (hbl.mono HB.out.size)
        obtain ⟨g1, o1, rfl, p1, m1⟩ := (S1.out.below hbl0).at q hql
        obtain ⟨c1, d1, x10, x11, x12, x13, i1, l1⟩ := m1.read
        have hin : (q : Int) < (t.args.length : Int) := by omega
        have hin0 : (0 : Int) ≤ (q : Int) := by omega
        have hq1 := size_mem hql
        have hq2 := sizeL_succ' t.args q hql
        have hq3 := deepL_take t.args q hql
        have hq4 := sizeL_le_take t.args (q + 1)
        have hq5 := deepL_le_take t.args (q + 1)
        have hq6 := deep_le t.args[q]
        have HQ1 := Lib.hid hq1
        have HQ2 := Lib.hid hq2
        have HQ3 := Lib.hid hq3
        have hsz := HSZ.out
        have hdz := HDZ.out
        have hbd : (1 : Int) + (sizeL (t.args.take q) : Int) + (t.args[q].size : Int) ≤ 2000000000 := by omega
        clear hq1 hq2 hq3 m1
        generalize t.args[q] = x at *
        have hba := (Below.refl wr.heap.size wr).alloc (Nat.le_refl _) (.cells #[.int .i64 x.k, .int .i64 x.n, .string x.s, .slice c1 x.args.length d1] 28 (0, 0))
        have hwa : (wr.alloc (.cells #[.int .i64 x.k, .int .i64 x.n, .string x.s, .slice c1 x.args.length d1] 28 (0, 0))).heap.size = wr.heap.size + 1 := by simp
        have HBA := Lib.hid hba
        have HWA := Lib.hid hwa
        have I1 := Lib.hid i1
        have HBL := Lib.hid hbl
        clear hba hwa i1 hbl hbl0
        go_wp2_with (refine (IH.out x _ _ _ (by have := HQ1.out; omega) (by have := HQ1.out; omega) (I1.out.below HBA.out)).mono ?_; rintro e9 w9 ⟨rfl, hb9⟩; have HB9 := Lib.hid (HBL.out.trans ((HBA.out.trans (hb9.mono (by have := HWA.out; omega))).mono HBL.out.size)); clear hb9)
        go_roundw
        case rel => exact ⟨q + 1, by omega, by first | (simp; have := HQ2.out; have := HQ3.out; omega) | (have h2 := HQ2.out; have h3 := HQ3.out; congr 1; omega), by go_num, HB9.out⟩
        case measure => simp [intOf]; omega
      · have hqe : q = t.args.length := by omega
        subst hqe
        have hfin : Below w.heap.size w wr := HB.out.trans (hbl.mono HB.out.size)
        have HF := Lib.hid hfin
        have hsz := HSZ.out
        have hdz := HDZ.out
        clear hbl hfin
        have hbd : (deepL t.args : Int) ≤ 1000000000 := by omega
        rw [List.take_length]
        go_wp2
        go_ret
        exact ⟨by first | (simp; omega) | (congr 2; omega), HF.out⟩

set_option maxHeartbeats 1600000 in
theorem ref_deep (N : Nat) : ∀ (t : Tm) (v : Value) (P : Nat → Prop) (w : World), t.size ≤ N → t.size ≤ 1000000000 → IsTm w P v t →
    Calls Tryd.prog 46 #[v] w fun e w' => e = .returned (.int .i64 (deepT t)) ∧ Below w.heap.size w w' := by
  induction N with
  | zero => intro t v P w hN; have := size_pos t; omega
  | succ N ih =>
    intro t v P w hN hM h
    have IH := Lib.hid ih
    clear ih
    obtain ⟨a, c, rfl⟩ := h.form
    have hs := h.args
    have hsz : sizeL t.args + 1 = t.size := by obtain ⟨k1, n1, s1, a1⟩ := t; simp [Tm.size, Tm.args]
    have hdz : deepL t.args + 1 = deepT t := by obtain ⟨k1, n1, s1, a1⟩ := t; simp [deepT, Tm.args]
    have hdl := deepL_le t.args
    have hlen : t.args.length ≤ 1000000000 := by have := len_le t.args; omega
    have hb := (Below.refl w.heap.size w).alloc (Nat.le_refl _) (.cells #[.int .i64 t.k, .int .i64 t.n, .string t.s, .slice a t.args.length c] 28 (0, 0))
    have hw : (w.alloc (.cells #[.int .i64 t.k, .int .i64 t.n, .string t.s, .slice a t.args.length c] 28 (0, 0))).heap.size = w.heap.size + 1 := by simp
    have S1 := Lib.hid hs
    have HB := Lib.hid hb
    have HW := Lib.hid hw
    have HSZ := Lib.hid hsz
    have HDZ := Lib.hid hdz
    clear hs hb hsz hdz h hw
    go_enter Tryd.func46, Tryd.ntmps46
    go_wp2
    generalize w.alloc (.cells #[.int .i64 t.k, .int .i64 t.n, .string t.s, .slice a t.args.length c] 28 (0, 0)) = W at *
    have hst : ∃ q : Nat, q ≤ t.args.length ∧ (.int .i64 0 : Value) = .int .i64 (0 + (deepL (t.args.take q) : Nat)) ∧ (.int .i64 0 : Value) = .int .i64 q ∧ Below W.heap.size W W := ⟨0, by omega, by simp [deepL], rfl, Below.refl _ _⟩
    have HST := Lib.hid hst
    clear hst
    go_loopw [3, 9] (fun n c wr => ∃ q : Nat, q ≤ t.args.length ∧ n = .int .i64 (0 + (deepL (t.args.take q) : Nat)) ∧ c = .int .i64 q ∧ Below W.heap.size W wr) (fun _ c _ => t.args.length - (intOf c).toNat)
    case atStart => exact HST.out
    case round =>
      obtain ⟨q, hq, rfl, rfl, hbl⟩ := hrel
      clear HST
      by_cases hql : q < t.args.length
      · have hbl0 : Below w.heap.size w wr := HB.out.trans (hbl.mono HB.out.size)
        obtain ⟨g1, o1, rfl, p1, m1⟩ := (S1.out.below hbl0).at q hql
        obtain ⟨c1, d1, x10, x11, x12, x13, i1, l1⟩ := m1.read
        have hin : (q : Int) < (t.args.length : Int) := by omega
        have hin0 : (0 : Int) ≤ (q : Int) := by omega
        have hq1 := size_mem hql
        have hq2 := sizeL_succ' t.args q hql
        have hq3 := deepL_take t.args q hql
        have hq4 := sizeL_le_take t.args (q + 1)
        have hq5 := deepL_le_take t.args (q + 1)
        have hq6 := deep_le t.args[q]
        have HQ1 := Lib.hid hq1
        have HQ2 := Lib.hid hq2
        have HQ3 := Lib.hid hq3
        have hsz := HSZ.out
        have hdz := HDZ.out
        have hbd : (1 : Int) + (sizeL (t.args.take q) : Int) + (t.args[q].size : Int) ≤ 2000000000 := by omega
        clear hq1 hq2 hq3 m1
        generalize t.args[q] = x at *
        have hba := (Below.refl wr.heap.size wr).alloc (Nat.le_refl _) (.cells #[.int .i64 x.k, .int .i64 x.n, .string x.s, .slice c1 x.args.length d1] 28 (0, 0))
        have hwa : (wr.alloc (.cells #[.int .i64 x.k, .int .i64 x.n, .string x.s, .slice c1 x.args.length d1] 28 (0, 0))).heap.size = wr.heap.size + 1 := by simp
        have HBA := Lib.hid hba
        have HWA := Lib.hid hwa
        have I1 := Lib.hid i1
        have HBL := Lib.hid hbl
        clear hba hwa i1 hbl hbl0
        go_wp2_with (refine (IH.out x _ _ _ (by have := HQ1.out; omega) (by have := HQ1.out; omega) (I1.out.below HBA.out)).mono ?_; rintro e9 w9 ⟨rfl, hb9⟩; have HB9 := Lib.hid (HBL.out.trans ((HBA.out.trans (hb9.mono (by have := HWA.out; omega))).mono HBL.out.size)); clear hb9)
        go_roundw
        case rel => exact ⟨q + 1, by omega, by first | (simp; have := HQ2.out; have := HQ3.out; omega) | (have h2 := HQ2.out; have h3 := HQ3.out; congr 1; omega), by go_num, HB9.out⟩
        case measure => simp [intOf]; omega
      · have hqe : q = t.args.length := by omega
        subst hqe
        have hfin : Below w.heap.size w wr := HB.out.trans (hbl.mono HB.out.size)
        have HF := Lib.hid hfin
        have hsz := HSZ.out
        have hdz := HDZ.out
        clear hbl hfin
        have hbd : (deepL t.args : Int) ≤ 1000000000 := by omega
        rw [List.take_length]
        go_wp2
        go_ret
        exact ⟨by first | (simp; omega) | (congr 2; omega), HF.out⟩
end Go.Proofs.YtkhchmgdaolojaaDoor.Tms
namespace Go.Proofs.YtkhchmgdaolojaaDoor.Tms
open Go Go.RowKit Go.Proofs.YtkhchmgdaolojaaDoor.Reg
set_option linter.unusedVariables false

set_option maxHeartbeats 1600000 in
theorem ref_may_leaf (k n : Int) (s : ByteArray) (a : Option Addr) (m c : Nat) (w : World) (hm : m ≤ 1000000000) (hno : ¬ (k = 4 ∧ mayB 4 n s m = true)) :
    Calls Tryd.prog 45 #[.agg #[.int .i64 k, .int .i64 n, .string s, .slice a m c]] w (Says (mayB k n s m) w) := by
  by_cases k1 : k = 1
  · subst k1
    by_cases h1 : 0 ≤ n
    · cases h2 : s.toList.isEmpty
      · have hr : mayB 1 n s m = false := by simp [mayB, h1, h2]
        rw [hr]
        clear hr hno
        go_enter Tryd.func45, Tryd.ntmps45
        go_wp2
        go_ret
        exact ⟨rfl, (Below.refl _ _).alloc (Nat.le_refl _) _⟩
      · by_cases h3 : m = 0
        · have q3 : ((m : Int) == 0) = true := by simp; omega
          have hr : mayB 1 n s m = true := by simp [mayB, h1, h2, h3]
          rw [hr]
          clear hr hno
          go_enter Tryd.func45, Tryd.ntmps45
          go_wp2
          go_ret
          exact ⟨rfl, (Below.refl _ _).alloc (Nat.le_refl _) _⟩
        · have q3 : ((m : Int) == 0) = false := by simp; omega
          have hr : mayB 1 n s m = false := by simp [mayB, h1, h2, h3]
          rw [hr]
          clear hr hno
          go_enter Tryd.func45, Tryd.ntmps45
          go_wp2
          go_ret
          exact ⟨rfl, (Below.refl _ _).alloc (Nat.le_refl _) _⟩
    · have hr : mayB 1 n s m = false := by simp [mayB, h1]
      rw [hr]
      clear hr hno
      go_enter Tryd.func45, Tryd.ntmps45
      go_wp2
      go_ret
      exact ⟨rfl, (Below.refl _ _).alloc (Nat.le_refl _) _⟩
  by_cases k2 : k = 2
  · subst k2
    cases h1 : s.toList.isEmpty
    · have hr : mayB 2 n s m = false := by simp [mayB, h1]
      rw [hr]
      clear hr hno
      go_enter Tryd.func45, Tryd.ntmps45
      go_wp2
      go_ret
      exact ⟨rfl, (Below.refl _ _).alloc (Nat.le_refl _) _⟩
    · by_cases h2 : m = 0
      · have q2 : ((m : Int) == 0) = true := by simp; omega
        have hr : mayB 2 n s m = true := by simp [mayB, h1, h2]
        rw [hr]
        clear hr hno
        go_enter Tryd.func45, Tryd.ntmps45
        go_wp2
        go_ret
        exact ⟨rfl, (Below.refl _ _).alloc (Nat.le_refl _) _⟩
      · have q2 : ((m : Int) == 0) = false := by simp; omega
        have hr : mayB 2 n s m = false := by simp [mayB, h1, h2]
        rw [hr]
        clear hr hno
        go_enter Tryd.func45, Tryd.ntmps45
        go_wp2
        go_ret
        exact ⟨rfl, (Below.refl _ _).alloc (Nat.le_refl _) _⟩
  by_cases k3 : k = 3
  · subst k3
    by_cases h1 : n = 0
    · have q1 : (n == 0) = true := by simp; omega
      by_cases h2 : s.size ≤ 1000
      · by_cases h3 : m = 0
        · have q3 : ((m : Int) == 0) = true := by simp; omega
          have hr : mayB 3 n s m = true := by simp [mayB, h1, h2, h3]
          rw [hr]
          clear hr hno
          go_enter Tryd.func45, Tryd.ntmps45
          go_wp2
          go_ret
          exact ⟨rfl, (Below.refl _ _).alloc (Nat.le_refl _) _⟩
        · have q3 : ((m : Int) == 0) = false := by simp; omega
          have hr : mayB 3 n s m = false := by simp [mayB, h1, h2, h3]
          rw [hr]
          clear hr hno
          go_enter Tryd.func45, Tryd.ntmps45
          go_wp2
          go_ret
          exact ⟨rfl, (Below.refl _ _).alloc (Nat.le_refl _) _⟩
      · have hr : mayB 3 n s m = false := by simp [mayB, h1, h2]
        rw [hr]
        clear hr hno
        go_enter Tryd.func45, Tryd.ntmps45
        go_wp2
        go_ret
        exact ⟨rfl, (Below.refl _ _).alloc (Nat.le_refl _) _⟩
    · have q1 : (n == 0) = false := by simp; omega
      have hr : mayB 3 n s m = false := by simp [mayB, h1]
      rw [hr]
      clear hr hno
      go_enter Tryd.func45, Tryd.ntmps45
      go_wp2
      go_ret
      exact ⟨rfl, (Below.refl _ _).alloc (Nat.le_refl _) _⟩
  by_cases k4 : k = 4
  · subst k4
    by_cases h1 : n = 0
    · have q1 : (n != 0) = false := by simp; omega
      by_cases h2 : s.size ≤ 1000
      · by_cases h3 : 1 ≤ m
        · have q3 : ((m : Int) == 0) = false := by simp; omega
          by_cases h4 : m ≤ 255
          · exact absurd ⟨rfl, by simp [mayB, h1, h2, h3, h4]; try omega⟩ hno
          · have hr : mayB 4 n s m = false := by simp [mayB, h1, h2, h3, h4]
            rw [hr]
            clear hr hno
            go_enter Tryd.func45, Tryd.ntmps45
            go_wp2
            go_ret
            exact ⟨rfl, (Below.refl _ _).alloc (Nat.le_refl _) _⟩
        · have q3 : ((m : Int) == 0) = true := by simp; omega
          have hr : mayB 4 n s m = false := by simp [mayB, h1, h2, h3]
          rw [hr]
          clear hr hno
          go_enter Tryd.func45, Tryd.ntmps45
          go_wp2
          go_ret
          exact ⟨rfl, (Below.refl _ _).alloc (Nat.le_refl _) _⟩
      · have hr : mayB 4 n s m = false := by simp [mayB, h1, h2]
        rw [hr]
        clear hr hno
        go_enter Tryd.func45, Tryd.ntmps45
        go_wp2
        go_ret
        exact ⟨rfl, (Below.refl _ _).alloc (Nat.le_refl _) _⟩
    · have q1 : (n != 0) = true := by simp; omega
      have hr : mayB 4 n s m = false := by simp [mayB, h1]
      rw [hr]
      clear hr hno
      go_enter Tryd.func45, Tryd.ntmps45
      go_wp2
      go_ret
      exact ⟨rfl, (Below.refl _ _).alloc (Nat.le_refl _) _⟩
  have g1 : (k == 1) = false := by simpa using k1
  have g2 : (k == 2) = false := by simpa using k2
  have g3 : (k == 3) = false := by simpa using k3
  have g4 : (k == 4) = false := by simpa using k4
  have hr : mayB k n s m = false := by simp [mayB, k1, k2, k3, k4]
  rw [hr]
  clear hr k1 k2 k3 k4 hno
  go_enter Tryd.func45, Tryd.ntmps45
  go_wp2
  go_ret
  exact ⟨rfl, (Below.refl _ _).alloc (Nat.le_refl _) _⟩

theorem mayTL_take : ∀ (l : List Tm) (j : Nat) (h : j < l.length), mayTL (l.take (j + 1)) = (mayTL (l.take j) && mayT l[j])
  | t :: l, 0, _ => by simp [mayTL]
  | t :: l, j + 1, h => by have := mayTL_take l j (by simpa using h); simp only [List.take_succ_cons, mayTL, List.getElem_cons_succ, this, Bool.and_assoc]
theorem mayTL_no : ∀ (l : List Tm) (j : Nat) (h : j < l.length), mayT l[j] = false → mayTL l = false
  | t :: l, 0, _, h => by simp only [List.getElem_cons_zero] at h; simp [mayTL, h]
  | t :: l, j + 1, h, h' => by have := mayTL_no l j (by simpa using h) (by simpa using h'); simp [mayTL, this]
theorem mayR_leaf {k n : Int} {s : ByteArray} {l : List Tm} (h : ¬ (k = 4 ∧ mayB 4 n s l.length = true)) : mayT (.mk k n s l) = mayB k n s l.length := by
  rw [mayT]
  cases hb : mayB k n s l.length
  · rfl
  · have hl : l = [] := by
      unfold mayB at hb
      by_cases k1 : k = 1
      · simp [k1] at hb; exact hb.2.2
      by_cases k2 : k = 2
      · simp [k2] at hb; exact hb.2
      by_cases k3 : k = 3
      · simp [k3] at hb; exact hb.2.2
      by_cases k4 : k = 4
      · exfalso; subst k4; exact h ⟨rfl, by unfold mayB; exact hb⟩
      · simp [k1, k2, k3, k4] at hb
    rw [hl]
    rfl

set_option maxHeartbeats 1600000 in
theorem ref_may (N : Nat) : ∀ (t : Tm) (v : Value) (P : Nat → Prop) (w : World), t.size ≤ N → t.size ≤ 1000000000 → IsTm w P v t → Calls Tryd.prog 45 #[v] w (Says (mayT t) w) := by
  induction N with
  | zero => intro t v P w hN; have := size_pos t; omega
  | succ N ih =>
    intro t v P w hN hM h
    have IH := Lib.hid ih
    clear ih
    obtain ⟨a, c, rfl⟩ := h.form
    have hs := h.args
    obtain ⟨k, n, s, ts⟩ := t
    simp only [Tm.k, Tm.n, Tm.s, Tm.args] at *
    have hsz : sizeL ts + 1 ≤ N + 1 := by simpa [Tm.size] using hN
    have hlen : ts.length ≤ 1000000000 := by have := len_le ts; simp only [Tm.size] at hM; omega
    have HM : Hid (sizeL ts ≤ 1000000000) := Lib.hid (by simp only [Tm.size] at hM; omega)
    clear hN hM h
    by_cases hno : k = 4 ∧ mayB 4 n s ts.length = true
    case neg =>
      rw [mayR_leaf hno]
      exact ref_may_leaf k n s a ts.length c w hlen hno
    obtain ⟨rfl, hb⟩ := hno
    have hres : mayT (.mk 4 n s ts) = mayTL ts := by rw [mayT, hb, Bool.true_and]
    simp [mayB] at hb
    obtain ⟨hn, hsz4, hl1, hl2⟩ := hb
    subst hn
    have q1 : ((ts.length : Int) == 0) = false := by rw [beq_eq_false_iff_ne]; omega
    have S1 := Lib.hid hs
    have HRES := Lib.hid hres
    have hba := (Below.refl w.heap.size w).alloc (Nat.le_refl _) (.cells #[.int .i64 4, .int .i64 0, .string s, .slice a ts.length c] 28 (0, 0))
    have hw : (w.alloc (.cells #[.int .i64 4, .int .i64 0, .string s, .slice a ts.length c] 28 (0, 0))).heap.size = w.heap.size + 1 := by simp
    have HB := Lib.hid hba
    have HW := Lib.hid hw
    clear hs hres hba hw
    go_enter Tryd.func45, Tryd.ntmps45
    go_wp2
    generalize w.alloc (.cells #[.int .i64 4, .int .i64 0, .string s, .slice a ts.length c] 28 (0, 0)) = W at *
    have hst : ∃ q : Nat, q ≤ ts.length ∧ (.int .i64 0 : Value) = .int .i64 q ∧ mayTL (ts.take q) = true ∧ Below W.heap.size W W := ⟨0, by omega, rfl, by simp [mayTL], Below.refl _ _⟩
    have HST := Lib.hid hst
    clear hst
    go_loopw [77] (fun c wr => ∃ q : Nat, q ≤ ts.length ∧ c = .int .i64 q ∧ mayTL (ts.take q) = true ∧ Below W.heap.size W wr) (fun c _ => ts.length - (intOf c).toNat)
    case atStart => exact HST.out
    case round =>
      obtain ⟨q, hq, rfl, hmy, hbl⟩ := hrel
      clear HST
      have HMY := Lib.hid hmy
      clear hmy
      by_cases hql : q < ts.length
      · have hbl0 : Below w.heap.size w wr := HB.out.trans (hbl.mono HB.out.size)
        obtain ⟨g1, o1, rfl, p1, m1⟩ := (S1.out.below hbl0).at q hql
        obtain ⟨c1, d1, x10, x11, x12, x13, i1, l1⟩ := m1.read
        have hin : (q : Int) < (ts.length : Int) := by omega
        have hin0 : (0 : Int) ≤ (q : Int) := by omega
        have hq1 := size_mem hql
        have hq2 := mayTL_take ts q hql
        have hq3 := mayTL_no ts q hql
        have HQ1 := Lib.hid hq1
        have HQ2 := Lib.hid hq2
        have HQ3 := Lib.hid hq3
        clear hq1 hq2 hq3 m1
        generalize ts[q] = x at *
        have hba := (Below.refl wr.heap.size wr).alloc (Nat.le_refl _) (.cells #[.int .i64 x.k, .int .i64 x.n, .string x.s, .slice c1 x.args.length d1] 28 (0, 0))
        have hwa : (wr.alloc (.cells #[.int .i64 x.k, .int .i64 x.n, .string x.s, .slice c1 x.args.length d1] 28 (0, 0))).heap.size = wr.heap.size + 1 := by simp
        have HBA := Lib.hid hba
        have HWA := Lib.hid hwa
        have I1 := Lib.hid i1
        have HBL := Lib.hid hbl
        clear hba hwa i1 hbl hbl0
        have hcall : ∀ W', IsTm W' P (.agg #[.int .i64 x.k, .int .i64 x.n, .string x.s, .slice c1 x.args.length d1]) x → Calls Tryd.prog 45 #[.agg #[.int .i64 x.k, .int .i64 x.n, .string x.s, .slice c1 x.args.length d1]] W' (Says (mayT x) W') := fun W' h => IH.out x _ _ _ (by have := HQ1.out; omega) (by have := HQ1.out; have := HM.out; omega) h
        have HCALL := Lib.hid hcall
        clear hcall
        cases hmx : mayT x
        · rw [hmx] at HCALL HQ2
          have HNO := Lib.hid (HQ3.out hmx)
          clear hmx HQ3
          go_wp2_with (refine (HCALL.out _ (I1.out.below HBA.out)).mono ?_; rintro e9 w9 ⟨rfl, hb9⟩; have HB9 := Lib.hid (HBL.out.trans ((HBA.out.trans (hb9.mono (by have := HWA.out; omega))).mono HBL.out.size)); clear hb9)
          go_ret
          exact says (by rw [HRES.out, HNO.out]) (HB.out.trans (HB9.out.mono HB.out.size))
        · rw [hmx] at HCALL HQ2
          clear hmx HQ3
          go_wp2_with (refine (HCALL.out _ (I1.out.below HBA.out)).mono ?_; rintro e9 w9 ⟨rfl, hb9⟩; have HB9 := Lib.hid (HBL.out.trans ((HBA.out.trans (hb9.mono (by have := HWA.out; omega))).mono HBL.out.size)); clear hb9)
          go_roundw
          case rel => exact ⟨q + 1, by omega, by go_num, by rw [HQ2.out, HMY.out]; rfl, HB9.out⟩
          case measure => simp [intOf]; omega
      · have hqe : q = ts.length := by omega
        subst hqe
        have HF := Lib.hid (HB.out.trans (hbl.mono HB.out.size))
        have hm := HMY.out
        rw [List.take_length] at hm
        have HMM := Lib.hid hm
        clear hbl hm
        go_wp2
        go_ret
        exact says (by rw [HRES.out, HMM.out]) HF.out

theorem ref_check (t : Tm) (v : Value) (P : Nat → Prop) (w : World) (hM : t.size ≤ 1000000000) (h : IsTm w P v t) : Calls Tryd.prog 30 #[v] w fun e w' => e = .returned (.int .i64 (checkT t)) ∧ Below w.heap.size w w' := by
  have hl := h.lt
  clear h
  obtain ⟨a, c, rfl⟩ := hl.form
  have hb := (Below.refl w.heap.size w).alloc (Nat.le_refl _) (.cells #[.int .i64 t.k, .int .i64 t.n, .string t.s, .slice a t.args.length c] 28 (0, 0))
  have hr := heap_alloc_new w (.cells #[.int .i64 t.k, .int .i64 t.n, .string t.s, .slice a t.args.length c] 28 (0, 0))
  have hw : (w.alloc (.cells #[.int .i64 t.k, .int .i64 t.n, .string t.s, .slice a t.args.length c] 28 (0, 0))).heap.size = w.heap.size + 1 := by simp
  have hc := checkT_eq t
  have HL := Lib.hid (hl.below hb)
  have HB := Lib.hid hb
  have HR := Lib.hid hr
  have HW := Lib.hid hw
  have h1 : ∀ W P, IsTm W P (.agg #[.int .i64 t.k, .int .i64 t.n, .string t.s, .slice a t.args.length c]) t → Calls Tryd.prog 45 #[.agg #[.int .i64 t.k, .int .i64 t.n, .string t.s, .slice a t.args.length c]] W (Says (mayT t) W) := fun W P h => ref_may _ t _ P W (Nat.le_refl _) hM h
  have h2 : ∀ W P, IsTm W P (.agg #[.int .i64 t.k, .int .i64 t.n, .string t.s, .slice a t.args.length c]) t → Calls Tryd.prog 46 #[.agg #[.int .i64 t.k, .int .i64 t.n, .string t.s, .slice a t.args.length c]] W fun e w' => e = .returned (.int .i64 (deepT t)) ∧ Below W.heap.size W w' := fun W P h => ref_deep _ t _ P W (Nat.le_refl _) hM h
  have h3 : ∀ W P, IsTm W P (.agg #[.int .i64 t.k, .int .i64 t.n, .string t.s, .slice a t.args.length c]) t → Calls Tryd.prog 47 #[.agg #[.int .i64 t.k, .int .i64 t.n, .string t.s, .slice a t.args.length c]] W fun e w' => e = .returned (.int .i64 t.size) ∧ Below W.heap.size W w' := fun W P h => ref_size _ t _ P W (Nat.le_refl _) hM h
  have H1 := Lib.hid h1
  have H2 := Lib.hid h2
  have H3 := Lib.hid h3
  have HC := Lib.hid hc
  clear h1 h2 h3 hc hl hb hr hw
  have finish : ∀ (r : Int) W', checkT t = r → Below w.heap.size w W' → (.returned (.int .i64 r) : Ending) = .returned (.int .i64 (checkT t)) ∧ Below w.heap.size w W' := fun r W' h hb => ⟨by rw [h], hb⟩
  cases hm : mayT t
  · rw [hm] at H1 HC
    clear hm
    go_enter Tryd.func30, Tryd.ntmps30
    go_wp2_with (refine (H1.out _ _ HL.out).mono ?_; rintro e1 w1 ⟨rfl, hb1⟩; have HB1 := Lib.hid (HB.out.trans (hb1.mono (by have := HW.out; omega))); clear hb1)
    go_ret
    exact finish _ _ (by rw [HC.out]; simp) HB1.out
  rw [hm] at H1 HC
  clear hm
  by_cases hd : 2000 < deepT t
  · go_enter Tryd.func30, Tryd.ntmps30
    go_wp2_with fail
    refine (H1.out _ _ HL.out).mono ?_; rintro e1 w1 ⟨rfl, hb1⟩; have HB1 := Lib.hid (HB.out.trans (hb1.mono (by have := HW.out; omega)))
    have HL1 := Lib.hid (HL.out.below hb1)
    obtain ⟨x0, x1, x2, x3⟩ := row4 ((hb1.block w.heap.size (by have := HW.out; omega)).trans HR.out)
    clear hb1
    go_wp2_with fail
    refine (H2.out _ _ HL1.out).mono ?_; rintro e2 w2 ⟨rfl, hb2⟩; have HB2 := Lib.hid (HB1.out.trans (hb2.mono HB1.out.size)); clear hb2 x0 x1 x2 x3
    go_wp2
    go_ret
    exact finish _ _ (by rw [HC.out]; simp [hd]) HB2.out
  by_cases hz : 20000 < t.size
  · go_enter Tryd.func30, Tryd.ntmps30
    go_wp2_with fail
    refine (H1.out _ _ HL.out).mono ?_; rintro e1 w1 ⟨rfl, hb1⟩; have HB1 := Lib.hid (HB.out.trans (hb1.mono (by have := HW.out; omega)))
    have HL1 := Lib.hid (HL.out.below hb1)
    have hs1 : w.heap.size < w1.heap.size := by have := HW.out; have := hb1.size; omega
    have HR1 := Lib.hid ((hb1.block w.heap.size (by have := HW.out; omega)).trans HR.out)
    obtain ⟨x0, x1, x2, x3⟩ := row4 HR1.out
    clear hb1
    go_wp2_with fail
    refine (H2.out _ _ HL1.out).mono ?_; rintro e2 w2 ⟨rfl, hb2⟩; have HB2 := Lib.hid (HB1.out.trans (hb2.mono HB1.out.size))
    have HL2 := Lib.hid (HL1.out.below hb2)
    clear x0 x1 x2 x3
    obtain ⟨x0, x1, x2, x3⟩ := row4 ((hb2.block _ hs1).trans HR1.out)
    clear hb2
    go_wp2_with fail
    refine (H3.out _ _ HL2.out).mono ?_; rintro e3 w3 ⟨rfl, hb3⟩; have HB3 := Lib.hid (HB2.out.trans (hb3.mono HB2.out.size)); clear hb3 x0 x1 x2 x3
    go_wp2
    go_ret
    exact finish _ _ (by rw [HC.out]; simp [hd, hz]) HB3.out
  · go_enter Tryd.func30, Tryd.ntmps30
    go_wp2_with fail
    refine (H1.out _ _ HL.out).mono ?_; rintro e1 w1 ⟨rfl, hb1⟩; have HB1 := Lib.hid (HB.out.trans (hb1.mono (by have := HW.out; omega)))
    have HL1 := Lib.hid (HL.out.below hb1)
    have hs1 : w.heap.size < w1.heap.size := by have := HW.out; have := hb1.size; omega
    have HR1 := Lib.hid ((hb1.block w.heap.size (by have := HW.out; omega)).trans HR.out)
    obtain ⟨x0, x1, x2, x3⟩ := row4 HR1.out
    clear hb1
    go_wp2_with fail
    refine (H2.out _ _ HL1.out).mono ?_; rintro e2 w2 ⟨rfl, hb2⟩; have HB2 := Lib.hid (HB1.out.trans (hb2.mono HB1.out.size))
    have HL2 := Lib.hid (HL1.out.below hb2)
    clear x0 x1 x2 x3
    obtain ⟨x0, x1, x2, x3⟩ := row4 ((hb2.block _ hs1).trans HR1.out)
    clear hb2
    go_wp2_with fail
    refine (H3.out _ _ HL2.out).mono ?_; rintro e3 w3 ⟨rfl, hb3⟩; have HB3 := Lib.hid (HB2.out.trans (hb3.mono HB2.out.size)); clear hb3 x0 x1 x2 x3
    go_wp2
    go_ret
    exact finish _ _ (by rw [HC.out]; simp [hd, hz]) HB3.out
end Go.Proofs.YtkhchmgdaolojaaDoor.Tms
