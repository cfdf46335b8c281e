
/-
  The reference's Same of two terms, walked over the program.
-/
import Derived.Test.YtkhchmgdaolojaaDoorBas
import Derived.Test.YtkhchmgdaolojaaDoorReg
import Derived.Test.YtkhchmgdaolojaaDoorProg
namespace Go.Proofs.YtkhchmgdaolojaaDoor.Tms
open Go Go.RowKit Go.Proofs.YtkhchmgdaolojaaDoor.Reg

def Says (b : Bool) (w : World) (e : Ending) (w' : World) : Prop := e = .returned (.bool b) ∧ Below w.heap.size w w'
theorem says {a b : Bool} {w w' : World} (h : a = b) (hb : Below w.heap.size w w') : Says b w (.returned (.bool a)) w' := ⟨by rw [h], hb⟩

mutual
def sameT : Tm → Tm → Bool
  | .mk k n s a, .mk k' n' s' a' => k == k' && (n == n' && (s.toList == s'.toList && (a.length == a'.length && sameL a a')))
def sameL : List Tm → List Tm → Bool
  | [], [] => true
  | t :: ts, u :: us => sameT t u && sameL ts us
  | _, _ => false
end

mutual
def Tm.size : Tm → Nat
  | .mk _ _ _ a => sizeL a + 1
def sizeL : List Tm → Nat
  | [] => 0
  | t :: ts => t.size + sizeL ts
end
theorem size_mem : ∀ {ts : List Tm} {i : Nat} (h : i < ts.length), ts[i].size ≤ sizeL ts
  | t :: ts, 0, h => by simp only [List.getElem_cons_zero, sizeL]; omega
  | t :: ts, i + 1, h => by
    have := size_mem (ts := ts) (i := i) (by simpa using h)
    simp only [List.getElem_cons_succ, sizeL]; omega

theorem size_pos (t : Tm) : 0 < t.size := by obtain ⟨k, n, s, a⟩ := t; simp [Tm.size]
theorem len_le : ∀ (ts : List Tm), ts.length ≤ sizeL ts
  | [] => by simp [sizeL]
  | t :: ts => by have := len_le ts; have := size_pos t; simp only [List.length_cons, sizeL]; omega

theorem two (w : World) (a b : Obj) : ((w.alloc a).alloc b).heap[w.heap.size]? = some a ∧ ((w.alloc a).alloc b).heap[w.heap.size + 1]? = some b ∧ ((w.alloc a).alloc b).heap.size = w.heap.size + 2 ∧ Below w.heap.size w ((w.alloc a).alloc b) :=
  ⟨heap_alloc2_old w a b, heap_alloc2_new w a b, by simp, ((Below.refl _ _).alloc (Nat.le_refl _) _).alloc (by simp) _⟩
theorem row4 {w : World} {g : Nat} {y0 y1 y2 y3 : Value} {T : TypeId} {fr : Nat × Nat} (h : w.heap[g]? = some (.cells #[y0, y1, y2, y3] T fr)) :
    w.cell? ⟨g, 0, none⟩ = some y0 ∧ w.cell? ⟨g, 1, none⟩ = some y1 ∧ w.cell? ⟨g, 2, none⟩ = some y2 ∧ w.cell? ⟨g, 3, none⟩ = some y3 :=
  ⟨cell_of_row w g 0 _ _ _ h, cell_of_row w g 1 _ _ _ h, cell_of_row w g 2 _ _ _ h, cell_of_row w g 3 _ _ _ h⟩

theorem sameL_take : ∀ (a b : List Tm) (k : Nat) (ha : k < a.length) (hb : k < b.length), sameL (a.take k) (b.take k) = true → sameL (a.take (k + 1)) (b.take (k + 1)) = sameT a[k] b[k]
  | t :: ts, u :: us, 0, _, _, _ => by simp [sameL]
  | t :: ts, u :: us, k + 1, ha, hb, h => by
    simp only [List.take_succ_cons, sameL, Bool.and_eq_true, List.getElem_cons_succ] at h ⊢
    rw [h.1, Bool.true_and]
    exact sameL_take ts us k _ _ h.2
theorem sameL_no : ∀ (a b : List Tm) (k : Nat), sameL (a.take k) (b.take k) = false → a.length = b.length → sameL a b = false
  | [], [], k, h, _ => by cases k <;> simp [sameL] at h
  | t :: ts, u :: us, 0, h, _ => by simp [sameL] at h
  | t :: ts, u :: us, k + 1, h, hl => by
    simp only [List.take_succ_cons, sameL, Bool.and_eq_false_iff] at h ⊢
    rcases h with h | h
    · exact .inl h
    · exact .inr (sameL_no ts us k h (by simpa using hl))
  | [], u :: us, k, h, hl => by simp at hl
  | t :: ts, [], k, h, hl => by simp at hl

def SmRel (a b : List Tm) (W : World) (c : Value) (wr : World) : Prop := ∃ k : Nat, k ≤ a.length ∧ c = .int .i64 k ∧ sameL (a.take k) (b.take k) = true ∧ Below W.heap.size W wr

set_option maxHeartbeats 1600000 in
theorem ref_same (N : Nat) : ∀ (t u : Tm) (v v' : Value) (P P' : Nat → Prop) (w : World), t.size ≤ N → t.size ≤ 1000000000 → IsTm w P v t → IsTm w P' v' u →
    Calls Tryd.prog 20 #[v, v'] w (Says (sameT t u) w) := by
  induction N with
  | zero => intro t u v v' P P' w hN hM; obtain ⟨k, n, s, a⟩ := t; simp [Tm.size] at hN
  | succ N ih =>
    intro t u v v' P P' w hN hM h1 h2
    have IH := Lib.hid ih
    clear ih
    obtain ⟨a, cap, rfl⟩ := h1.form
    obtain ⟨a', cap', rfl⟩ := h2.form
    have s1 := h1.args
    have s2 := h2.args
    obtain ⟨k, n, s, ts⟩ := t
    obtain ⟨k', n', s', us⟩ := u
    simp only [Tm.k, Tm.n, Tm.s, Tm.args] at *
    have S1 := Lib.hid s1
    have S2 := Lib.hid s2
    have HN : Hid (sizeL ts ≤ N) := Lib.hid (by simp only [Tm.size] at hN; omega)
    have hlen : ts.length ≤ 1000000000 := by have := len_le ts; simp only [Tm.size] at hM; omega
    have HM : Hid (sizeL ts ≤ 1000000000) := Lib.hid (by simp only [Tm.size] at hM; omega)
    clear h1 h2 s1 s2 hN hM
    obtain ⟨t0, t1, tsz, tbl⟩ := two w (.cells #[.int .i64 k, .int .i64 n, .string s, .slice a ts.length cap] 28) (.cells #[.int .i64 k', .int .i64 n', .string s', .slice a' us.length cap'] 28)
    have T0 := Lib.hid t0
    have T1 := Lib.hid t1
    have TS := Lib.hid tsz
    have TB := Lib.hid tbl
    clear t0 t1 tsz tbl
    have hno : ∀ W', Below w.heap.size w ((w.alloc (.cells #[.int .i64 k, .int .i64 n, .string s, .slice a ts.length cap] 28)).alloc (.cells #[.int .i64 k', .int .i64 n', .string s', .slice a' us.length cap'] 28)) → W' = ((w.alloc (.cells #[.int .i64 k, .int .i64 n, .string s, .slice a ts.length cap] 28)).alloc (.cells #[.int .i64 k', .int .i64 n', .string s', .slice a' us.length cap'] 28)) → Below w.heap.size w W' := fun W' h e => e ▸ h
    by_cases e1 : k = k'
    case neg =>
      have b1 : (k != k') = true := by simpa using e1
      have hf : sameT (.mk k n s ts) (.mk k' n' s' us) = false := by simp [sameT, e1]
      have HF := Lib.hid hf
      clear hf e1
      go_enter Tryd.func20, Tryd.ntmps20
      go_wp2
      go_ret
      exact says HF.out.symm TB.out
    by_cases e2 : n = n'
    case neg =>
      have b1 : (k != k') = false := by simpa using e1
      have b2 : (n != n') = true := by simpa using e2
      have hf : sameT (.mk k n s ts) (.mk k' n' s' us) = false := by simp [sameT, e2]
      have HF := Lib.hid hf
      clear hf e1 e2
      go_enter Tryd.func20, Tryd.ntmps20
      go_wp2
      go_ret
      exact says HF.out.symm TB.out
    have b1 : (k != k') = false := by simpa using e1
    have b2 : (n != n') = false := by simpa using e2
    cases e3 : (s.toList == s'.toList)
    · have hf : sameT (.mk k n s ts) (.mk k' n' s' us) = false := by simp [sameT, e3]
      have HF := Lib.hid hf
      clear hf e1 e2
      go_enter Tryd.func20, Tryd.ntmps20
      go_wp2
      go_ret
      exact says HF.out.symm TB.out
    by_cases e4 : ts.length = us.length
    case neg =>
      have b4 : ((ts.length : Int) != (us.length : Int)) = true := by simp; omega
      have hf : sameT (.mk k n s ts) (.mk k' n' s' us) = false := by simp [sameT, e4]
      have HF := Lib.hid hf
      clear hf e1 e2 e4
      go_enter Tryd.func20, Tryd.ntmps20
      go_wp2
      go_ret
      exact says HF.out.symm TB.out
    have b4 : ((ts.length : Int) != (us.length : Int)) = false := by simp; omega
    have hf : sameT (.mk k n s ts) (.mk k' n' s' us) = sameL ts us := by simp [sameT, e1, e2, e3, e4]
    have HF := Lib.hid hf
    have E4 := Lib.hid e4
    clear hf e1 e2 e4
    go_enter Tryd.func20, Tryd.ntmps20
    go_wp2
    generalize ((w.alloc (.cells #[.int .i64 k, .int .i64 n, .string s, .slice a ts.length cap] 28)).alloc (.cells #[.int .i64 k', .int .i64 n', .string s', .slice a' us.length cap'] 28)) = W at *
    have hst : SmRel ts us W (.int .i64 ((0 : Nat) : Int)) W := ⟨0, by omega, rfl, by simp [sameL], Below.refl _ _⟩
    have H := Lib.hid hst
    clear hst
    go_loopw [37] (fun c wr => SmRel ts us W c wr) (fun c _ => ts.length - (intOf c).toNat)
    case atStart => exact H.out
    case round =>
      obtain ⟨q, hq, rfl, hs, hbl⟩ := hrel
      have hbl0 : Below w.heap.size w wr := TB.out.trans (hbl.mono (by have := TS.out; omega))
      have hszW : W.heap.size = w.heap.size + 2 := TS.out
      have hWr : W.heap.size ≤ wr.heap.size := hbl.size
      have HS := Lib.hid hs
      have HSZ := Lib.hid hszW
      clear hs H hszW
      by_cases hql : q < ts.length
      · have hqu : q < us.length := by have := E4.out; omega
        obtain ⟨g1, o1, rfl, p1, m1⟩ := (S1.out.below hbl0).at q hql
        obtain ⟨g2, o2, rfl, p2, m2⟩ := (S2.out.below hbl0).at q hqu
        obtain ⟨c1, d1, x10, x11, x12, x13, i1, l1⟩ := m1.read
        obtain ⟨c2, d2, x20, x21, x22, x23, i2, l2⟩ := m2.read
        have f3 := (row4 ((hbl.block _ (by have := HSZ.out; omega)).trans T0.out)).2.2.2
        have e3' := (row4 ((hbl.block _ (by have := HSZ.out; omega)).trans T1.out)).2.2.2
        have hyes := sameL_take ts us q hql hqu HS.out
        have hno2 := sameL_no ts us (q + 1)
        have hsz := size_mem hql
        have I1 := Lib.hid i1
        have I2 := Lib.hid i2
        have HY := Lib.hid hyes
        have HN2 := Lib.hid hno2
        have HZ : Hid (ts[q].size ≤ N) := Lib.hid (by have := HN.out; omega)
        have HZ2 : Hid (ts[q].size ≤ 1000000000) := Lib.hid (by have := HM.out; omega)
        clear m1 m2 i1 i2 hyes hno2 hsz hno
        generalize ts[q] = x at *
        generalize us[q] = y at *
        obtain ⟨xk, xn, xs, xa⟩ := x
        obtain ⟨yk, yn, ys, ya⟩ := y
        simp only [Tm.k, Tm.n, Tm.s, Tm.args] at x10 x11 x12 x13 x20 x21 x22 x23 I1 I2
        have hin : (q : Int) < (ts.length : Int) := by omega
        have hin2 : (q : Int) < (us.length : Int) := by omega
        have hin0 : (0 : Int) ≤ (q : Int) := by omega
        go_wp2
        refine wp_region_rest (by kernel_rfl) ?_
        have fs : ∀ z, Below wr.drew.heap.size wr.drew z → z.cell? ⟨w.heap.size, 3, none⟩ = some (.slice (some ⟨g1, o1, none⟩) ts.length cap) ∧ z.cell? ⟨w.heap.size + 1, 3, none⟩ = some (.slice (some ⟨g2, o2, none⟩) us.length cap') ∧
            z.cell? ⟨g1, o1 + q * 4, none⟩ = some (.int .i64 xk) ∧ z.cell? ⟨g1, o1 + q * 4 + 1, none⟩ = some (.int .i64 xn) ∧ z.cell? ⟨g1, o1 + q * 4 + 2, none⟩ = some (.string xs) ∧ z.cell? ⟨g1, o1 + q * 4 + 3, none⟩ = some (.slice c1 xa.length d1) ∧
            z.cell? ⟨g2, o2 + q * 4, none⟩ = some (.int .i64 yk) ∧ z.cell? ⟨g2, o2 + q * 4 + 1, none⟩ = some (.int .i64 yn) ∧ z.cell? ⟨g2, o2 + q * 4 + 2, none⟩ = some (.string ys) ∧ z.cell? ⟨g2, o2 + q * 4 + 3, none⟩ = some (.slice c2 ya.length d2) ∧
            IsTm z P (.agg #[.int .i64 xk, .int .i64 xn, .string xs, .slice c1 xa.length d1]) (.mk xk xn xs xa) ∧ IsTm z P' (.agg #[.int .i64 yk, .int .i64 yn, .string ys, .slice c2 ya.length d2]) (.mk yk yn ys ya) := fun z hz => by
          have hz' : Below wr.heap.size wr z := (Below.refl _ _).drew.trans hz
          have at1 : ∀ o, z.cell? ⟨g1, o, none⟩ = wr.cell? ⟨g1, o, none⟩ := fun o => hz'.cell (p := ⟨g1, o, none⟩) l1
          have at2 : ∀ o, z.cell? ⟨g2, o, none⟩ = wr.cell? ⟨g2, o, none⟩ := fun o => hz'.cell (p := ⟨g2, o, none⟩) l2
          refine ⟨(hz'.cell (p := ⟨w.heap.size, 3, none⟩) (by have := HSZ.out; show w.heap.size < _; omega)).trans f3, (hz'.cell (p := ⟨w.heap.size + 1, 3, none⟩) (by have := HSZ.out; show w.heap.size + 1 < _; omega)).trans e3', (at1 _).trans x10, (at1 _).trans x11, (at1 _).trans x12, (at1 _).trans x13, (at2 _).trans x20, (at2 _).trans x21, (at2 _).trans x22, (at2 _).trans x23, I1.out.below hz', I2.out.below hz'⟩
        have FS := Lib.hid fs
        have HB0 : Hid (Below w.heap.size w wr.drew) := Lib.hid hbl0.drew
        have HBW : Hid (Below W.heap.size W wr.drew) := Lib.hid hbl.drew
        clear fs f3 e3' x10 x11 x12 x13 x20 x21 x22 x23 I1 I2 hbl hbl0
        generalize wr.drew = W0 at *
        refine rest_ops 0 10 53 (fun j v _ => match j with | 0 => v = .pointer (some ⟨w.heap.size, 3, none⟩) | 1 => v = .slice (some ⟨g1, o1, none⟩) ts.length cap | 2 => v = .int .i64 q | 3 => v = .pointer (some ⟨g1, o1 + q * 4, none⟩) | 4 => v = .agg #[.int .i64 xk, .int .i64 xn, .string xs, .slice c1 xa.length d1] | 5 => v = .pointer (some ⟨w.heap.size + 1, 3, none⟩) | 6 => v = .slice (some ⟨g2, o2, none⟩) us.length cap' | 7 => v = .int .i64 q | 8 => v = .pointer (some ⟨g2, o2 + q * 4, none⟩) | 9 => v = .agg #[.int .i64 yk, .int .i64 yn, .string ys, .slice c2 ya.length d2] | _ => True) (fun _ _ => none) (by kernel_rfl) (by kernel_rfl) rfl (.inr (by kernel_rfl)) ?hS ?hop ?_
        case hS => intro j v u u' _ _ h _; exact h
        case hop =>
          refine ⟨fun v u hu hs Q' hQ => ?_, fun v u hu hs Q' hQ => ?_, fun v u hu hs Q' hQ => ?_, fun v u hu hs Q' hQ => ?_, fun v u hu hs Q' hQ => ?_, fun v u hu hs Q' hQ => ?_, fun v u hu hs Q' hQ => ?_, fun v u hu hs Q' hQ => ?_, fun v u hu hs Q' hQ => ?_, fun v u hu hs Q' hQ => ?_, trivial⟩
          · simp only [putAll, dstOf]
            have y := FS.out u hu
            have z0 := y.1
            have z1 := y.2.1
            have z2 := y.2.2.1
            have z3 := y.2.2.2.1
            have z4 := y.2.2.2.2.1
            have z5 := y.2.2.2.2.2.1
            have z6 := y.2.2.2.2.2.2.1
            have z7 := y.2.2.2.2.2.2.2.1
            have z8 := y.2.2.2.2.2.2.2.2.1
            have z9 := y.2.2.2.2.2.2.2.2.2.1
            clear y
            go_wp2
            exact ⟨rfl, Below.refl _ _, rfl, fun _ h => nomatch h⟩
          · simp only [putAll, dstOf]
            have s_0 : v 0 = .pointer (some ⟨w.heap.size, 3, none⟩) := hs 0 (by kernel_rfl) (by decide) (by decide)
            have y := FS.out u hu
            have z0 := y.1
            have z1 := y.2.1
            have z2 := y.2.2.1
            have z3 := y.2.2.2.1
            have z4 := y.2.2.2.2.1
            have z5 := y.2.2.2.2.2.1
            have z6 := y.2.2.2.2.2.2.1
            have z7 := y.2.2.2.2.2.2.2.1
            have z8 := y.2.2.2.2.2.2.2.2.1
            have z9 := y.2.2.2.2.2.2.2.2.2.1
            clear y
            go_wp2
            exact ⟨rfl, Below.refl _ _, rfl, fun _ h => nomatch h⟩
          · simp only [putAll, dstOf]
            have y := FS.out u hu
            have z0 := y.1
            have z1 := y.2.1
            have z2 := y.2.2.1
            have z3 := y.2.2.2.1
            have z4 := y.2.2.2.2.1
            have z5 := y.2.2.2.2.2.1
            have z6 := y.2.2.2.2.2.2.1
            have z7 := y.2.2.2.2.2.2.2.1
            have z8 := y.2.2.2.2.2.2.2.2.1
            have z9 := y.2.2.2.2.2.2.2.2.2.1
            clear y
            go_wp2
            exact ⟨rfl, Below.refl _ _, rfl, fun _ h => nomatch h⟩
          · simp only [putAll, dstOf]
            have s_1 : v 1 = .slice (some ⟨g1, o1, none⟩) ts.length cap := hs 1 (by kernel_rfl) (by decide) (by decide)
            have s_2 : v 2 = .int .i64 q := hs 2 (by kernel_rfl) (by decide) (by decide)
            have y := FS.out u hu
            have z0 := y.1
            have z1 := y.2.1
            have z2 := y.2.2.1
            have z3 := y.2.2.2.1
            have z4 := y.2.2.2.2.1
            have z5 := y.2.2.2.2.2.1
            have z6 := y.2.2.2.2.2.2.1
            have z7 := y.2.2.2.2.2.2.2.1
            have z8 := y.2.2.2.2.2.2.2.2.1
            have z9 := y.2.2.2.2.2.2.2.2.2.1
            clear y
            go_wp2
            exact ⟨rfl, Below.refl _ _, rfl, fun _ h => nomatch h⟩
          · simp only [putAll, dstOf]
            have s_3 : v 3 = .pointer (some ⟨g1, o1 + q * 4, none⟩) := hs 3 (by kernel_rfl) (by decide) (by decide)
            have y := FS.out u hu
            have z0 := y.1
            have z1 := y.2.1
            have z2 := y.2.2.1
            have z3 := y.2.2.2.1
            have z4 := y.2.2.2.2.1
            have z5 := y.2.2.2.2.2.1
            have z6 := y.2.2.2.2.2.2.1
            have z7 := y.2.2.2.2.2.2.2.1
            have z8 := y.2.2.2.2.2.2.2.2.1
            have z9 := y.2.2.2.2.2.2.2.2.2.1
            clear y
            go_wp2
            exact ⟨rfl, Below.refl _ _, rfl, fun _ h => nomatch h⟩
          · simp only [putAll, dstOf]
            have y := FS.out u hu
            have z0 := y.1
            have z1 := y.2.1
            have z2 := y.2.2.1
            have z3 := y.2.2.2.1
            have z4 := y.2.2.2.2.1
            have z5 := y.2.2.2.2.2.1
            have z6 := y.2.2.2.2.2.2.1
            have z7 := y.2.2.2.2.2.2.2.1
            have z8 := y.2.2.2.2.2.2.2.2.1
            have z9 := y.2.2.2.2.2.2.2.2.2.1
            clear y
            go_wp2
            exact ⟨rfl, Below.refl _ _, rfl, fun _ h => nomatch h⟩
          · simp only [putAll, dstOf]
            have s_5 : v 5 = .pointer (some ⟨w.heap.size + 1, 3, none⟩) := hs 5 (by kernel_rfl) (by decide) (by decide)
            have y := FS.out u hu
            have z0 := y.1
            have z1 := y.2.1
            have z2 := y.2.2.1
            have z3 := y.2.2.2.1
            have z4 := y.2.2.2.2.1
            have z5 := y.2.2.2.2.2.1
            have z6 := y.2.2.2.2.2.2.1
            have z7 := y.2.2.2.2.2.2.2.1
            have z8 := y.2.2.2.2.2.2.2.2.1
            have z9 := y.2.2.2.2.2.2.2.2.2.1
            clear y
            go_wp2
            exact ⟨rfl, Below.refl _ _, rfl, fun _ h => nomatch h⟩
          · simp only [putAll, dstOf]
            have y := FS.out u hu
            have z0 := y.1
            have z1 := y.2.1
            have z2 := y.2.2.1
            have z3 := y.2.2.2.1
            have z4 := y.2.2.2.2.1
            have z5 := y.2.2.2.2.2.1
            have z6 := y.2.2.2.2.2.2.1
            have z7 := y.2.2.2.2.2.2.2.1
            have z8 := y.2.2.2.2.2.2.2.2.1
            have z9 := y.2.2.2.2.2.2.2.2.2.1
            clear y
            go_wp2
            exact ⟨rfl, Below.refl _ _, rfl, fun _ h => nomatch h⟩
          · simp only [putAll, dstOf]
            have s_6 : v 6 = .slice (some ⟨g2, o2, none⟩) us.length cap' := hs 6 (by kernel_rfl) (by decide) (by decide)
            have s_7 : v 7 = .int .i64 q := hs 7 (by kernel_rfl) (by decide) (by decide)
            have y := FS.out u hu
            have z0 := y.1
            have z1 := y.2.1
            have z2 := y.2.2.1
            have z3 := y.2.2.2.1
            have z4 := y.2.2.2.2.1
            have z5 := y.2.2.2.2.2.1
            have z6 := y.2.2.2.2.2.2.1
            have z7 := y.2.2.2.2.2.2.2.1
            have z8 := y.2.2.2.2.2.2.2.2.1
            have z9 := y.2.2.2.2.2.2.2.2.2.1
            clear y
            go_wp2
            exact ⟨rfl, Below.refl _ _, rfl, fun _ h => nomatch h⟩
          · simp only [putAll, dstOf]
            have s_8 : v 8 = .pointer (some ⟨g2, o2 + q * 4, none⟩) := hs 8 (by kernel_rfl) (by decide) (by decide)
            have y := FS.out u hu
            have z0 := y.1
            have z1 := y.2.1
            have z2 := y.2.2.1
            have z3 := y.2.2.2.1
            have z4 := y.2.2.2.2.1
            have z5 := y.2.2.2.2.2.1
            have z6 := y.2.2.2.2.2.2.1
            have z7 := y.2.2.2.2.2.2.2.1
            have z8 := y.2.2.2.2.2.2.2.2.1
            have z9 := y.2.2.2.2.2.2.2.2.2.1
            clear y
            go_wp2
            exact ⟨rfl, Below.refl _ _, rfl, fun _ h => nomatch h⟩
        intro v u hu hs hap
        have s_0 : v 0 = .pointer (some ⟨w.heap.size, 3, none⟩) := hs 0 (by decide) (by decide)
        have s_1 : v 1 = .slice (some ⟨g1, o1, none⟩) ts.length cap := hs 1 (by decide) (by decide)
        have s_2 : v 2 = .int .i64 q := hs 2 (by decide) (by decide)
        have s_3 : v 3 = .pointer (some ⟨g1, o1 + q * 4, none⟩) := hs 3 (by decide) (by decide)
        have s_4 : v 4 = .agg #[.int .i64 xk, .int .i64 xn, .string xs, .slice c1 xa.length d1] := hs 4 (by decide) (by decide)
        have s_5 : v 5 = .pointer (some ⟨w.heap.size + 1, 3, none⟩) := hs 5 (by decide) (by decide)
        have s_6 : v 6 = .slice (some ⟨g2, o2, none⟩) us.length cap' := hs 6 (by decide) (by decide)
        have s_7 : v 7 = .int .i64 q := hs 7 (by decide) (by decide)
        have s_8 : v 8 = .pointer (some ⟨g2, o2 + q * 4, none⟩) := hs 8 (by decide) (by decide)
        have s_9 : v 9 = .agg #[.int .i64 yk, .int .i64 yn, .string ys, .slice c2 ya.length d2] := hs 9 (by decide) (by decide)
        simp only [putAll, dstOf]
        have y := FS.out u hu
        have hcall := IH.out (.mk xk xn xs xa) (.mk yk yn ys ya) _ _ P P' u HZ.out HZ2.out y.2.2.2.2.2.2.2.2.2.2.1 y.2.2.2.2.2.2.2.2.2.2.2
        have HU0 := Lib.hid (HB0.out.trans (hu.mono HB0.out.size))
        have HUW := Lib.hid (HBW.out.trans (hu.mono HBW.out.size))
        clear hs hap y hu
        cases hsm : sameT (.mk xk xn xs xa) (.mk yk yn ys ya)
        · rw [hsm] at hcall
          have HC := Lib.hid hcall
          have hr := HN2.out (by rw [HY.out, hsm]) E4.out
          have HR := Lib.hid hr
          clear hcall hsm hr
          refine rest_lineL 10 12 [_, _] rfl (by kernel_rfl) (by decide) (by decide) (by kernel_rfl) ?_
          go_wp2_with (refine (HC.out).mono ?_; rintro e w9 ⟨rfl, hb9⟩)
          refine then_rest (rest_end (by decide) ?_)
          go_wp2
          go_ret
          exact says (by rw [HF.out, HR.out]) (HU0.out.trans (hb9.mono HU0.out.size))
        · rw [hsm] at hcall
          have HC := Lib.hid hcall
          have hr := HY.out
          rw [hsm] at hr
          have HR := Lib.hid hr
          clear hcall hsm hr
          refine rest_lineL 10 12 [_, _] rfl (by kernel_rfl) (by decide) (by decide) (by kernel_rfl) ?_
          go_wp2_with (refine (HC.out).mono ?_; rintro e w9 ⟨rfl, hb9⟩)
          refine then_rest (rest_end (by decide) ?_)
          go_wp2
          go_roundw
          case rel => exact ⟨q + 1, by omega, by go_num, HR.out, HUW.out.trans (hb9.mono HUW.out.size)⟩
          case measure => simp [intOf]; omega
      · go_wp2
        go_ret
        exact says (by have h := HS.out; have := E4.out; rw [HF.out, ← h, List.take_of_length_le (by omega), List.take_of_length_le (by omega)]) hbl0
end Go.Proofs.YtkhchmgdaolojaaDoor.Tms
