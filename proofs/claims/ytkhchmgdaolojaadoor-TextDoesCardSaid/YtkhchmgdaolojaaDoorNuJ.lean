
/-
  Layer 1's reference: Print, walked over the program (printed by gen_nuj.py).
-/
import Derived.Test.YtkhchmgdaolojaaDoorNuT
import Derived.Test.YtkhchmgdaolojaaDoorNuP
import Derived.Test.YtkhchmgdaolojaaDoorChn
namespace Go.Proofs.YtkhchmgdaolojaaDoor.Num
open Go Go.RowKit Go.Proofs.YtkhchmgdaolojaaDoor.Reg
set_option linter.unusedVariables false
set_option linter.unusedSimpArgs false

theorem bytes_app (l m : List UInt8) : (ByteArray.mk l.toArray) ++ (ByteArray.mk m.toArray) = ByteArray.mk (l ++ m).toArray := by
  apply ByteArray.ext
  rw [ByteArray.data_append]
  simp
theorem dec_big {u : Nat} (h : ¬ u < 10) : Lib.decDigits u = Lib.decDigits (u / 10) ++ [UInt8.ofNat (48 + u % 10)] := by rw [Lib.decDigits, dif_neg h]
theorem dec_small {u : Nat} (h : u < 10) : Lib.decDigits u = [UInt8.ofNat (48 + u)] := by rw [Lib.decDigits, dif_pos h]
theorem dec_len : ∀ (k u : Nat), u < 10 ^ (k + 1) → (Lib.decDigits u).length ≤ k + 1
  | 0, u, h => by rw [dec_small (by omega)]; simp
  | k + 1, u, h => by
    by_cases h1 : u < 10
    · rw [dec_small h1]; simp
    · have ih := dec_len k (u / 10) (by rw [Nat.pow_succ] at h; omega)
      rw [dec_big h1]; simp; omega
theorem itoa_len {n : Int} (h : Fit n) : (Lib.itoa n).length ≤ 30 := by
  have e : (10 : Nat) ^ (20 + 1) = 1000000000000000000000 := by decide
  unfold Fit at h
  unfold Lib.itoa
  split
  · have := dec_len 20 n.natAbs (by rw [e]; omega)
    simp only [List.length_cons]; omega
  · have := dec_len 20 n.toNat (by rw [e]; omega)
    omega
theorem itoa_neg {n : Int} (h : n ≤ -10) : Lib.itoa n = Lib.itoa (n.tdiv 10) ++ [UInt8.ofNat (48 + (-(n.tmod 10)).toNat)] := by
  have h1 := Int.mul_tdiv_add_tmod n 10
  have h2 : (n.tdiv 10).natAbs = n.natAbs / 10 := by rw [Int.natAbs_tdiv]; rfl
  have h3 : (n.tmod 10).natAbs = n.natAbs % 10 := by rw [Int.natAbs_tmod]; rfl
  have h4 := (tmod_sign (a := n) (b := 10)).2 (by omega)
  have h5 : n.tdiv 10 < 0 := by omega
  unfold Lib.itoa
  rw [if_pos (by omega), if_pos h5, dec_big (by omega), h2, show (-(n.tmod 10)).toNat = n.natAbs % 10 by omega]
  rfl
theorem itoa_pos {n : Int} (h : 10 ≤ n) : Lib.itoa n = Lib.itoa (n / 10) ++ Lib.itoa (n % 10) := by
  unfold Lib.itoa
  rw [if_neg (by omega), if_neg (by omega), if_neg (by omega), dec_big (by omega), dec_small (u := (n % 10).toNat) (by omega)]
  rw [show (n / 10).toNat = n.toNat / 10 by omega, show (n % 10).toNat = n.toNat % 10 by omega]
/-- that text is told; nothing is changed -/
def Tells (l : List UInt8) (w : World) (e : Ending) (w' : World) : Prop := e = .returned (.string ⟨l.toArray⟩) ∧ Below w.heap.size w w'
theorem tells {s : ByteArray} {l : List UInt8} {w w' : World} (h : s = ⟨l.toArray⟩) (hb : Below w.heap.size w w') : Tells l w (.returned (.string s)) w' := by subst h; exact ⟨rfl, hb⟩
theorem tells0 {s : ByteArray} {l : List UInt8} {w : World} (h : s = ⟨l.toArray⟩) : Tells l w (.returned (.string s)) w := tells h (Below.refl _ _)
set_option maxRecDepth 100000 in
theorem ref_Print_m1 (w : World) : Calls Tryd.prog 67 #[.int .i64 (-1)] w (Tells (Lib.itoa (-1)) w) := by
  have HI : Hid (Lib.itoa (-1) = [45, 49]) := Lib.hid (by simp [Lib.itoa, Lib.decDigits])
  go_enter Tryd.func67, Tryd.ntmps67
  go_wp2
  go_ret
  exact tells0 (by rw [HI.out]; decide)
set_option maxRecDepth 100000 in
theorem ref_Print_m2 (w : World) : Calls Tryd.prog 67 #[.int .i64 (-2)] w (Tells (Lib.itoa (-2)) w) := by
  have HI : Hid (Lib.itoa (-2) = [45, 50]) := Lib.hid (by simp [Lib.itoa, Lib.decDigits])
  go_enter Tryd.func67, Tryd.ntmps67
  go_wp2
  go_ret
  exact tells0 (by rw [HI.out]; decide)
set_option maxRecDepth 100000 in
theorem ref_Print_m3 (w : World) : Calls Tryd.prog 67 #[.int .i64 (-3)] w (Tells (Lib.itoa (-3)) w) := by
  have HI : Hid (Lib.itoa (-3) = [45, 51]) := Lib.hid (by simp [Lib.itoa, Lib.decDigits])
  go_enter Tryd.func67, Tryd.ntmps67
  go_wp2
  go_ret
  exact tells0 (by rw [HI.out]; decide)
set_option maxRecDepth 100000 in
theorem ref_Print_m4 (w : World) : Calls Tryd.prog 67 #[.int .i64 (-4)] w (Tells (Lib.itoa (-4)) w) := by
  have HI : Hid (Lib.itoa (-4) = [45, 52]) := Lib.hid (by simp [Lib.itoa, Lib.decDigits])
  go_enter Tryd.func67, Tryd.ntmps67
  go_wp2
  go_ret
  exact tells0 (by rw [HI.out]; decide)
set_option maxRecDepth 100000 in
theorem ref_Print_m5 (w : World) : Calls Tryd.prog 67 #[.int .i64 (-5)] w (Tells (Lib.itoa (-5)) w) := by
  have HI : Hid (Lib.itoa (-5) = [45, 53]) := Lib.hid (by simp [Lib.itoa, Lib.decDigits])
  go_enter Tryd.func67, Tryd.ntmps67
  go_wp2
  go_ret
  exact tells0 (by rw [HI.out]; decide)
set_option maxRecDepth 100000 in
theorem ref_Print_m6 (w : World) : Calls Tryd.prog 67 #[.int .i64 (-6)] w (Tells (Lib.itoa (-6)) w) := by
  have HI : Hid (Lib.itoa (-6) = [45, 54]) := Lib.hid (by simp [Lib.itoa, Lib.decDigits])
  go_enter Tryd.func67, Tryd.ntmps67
  go_wp2
  go_ret
  exact tells0 (by rw [HI.out]; decide)
set_option maxRecDepth 100000 in
theorem ref_Print_m7 (w : World) : Calls Tryd.prog 67 #[.int .i64 (-7)] w (Tells (Lib.itoa (-7)) w) := by
  have HI : Hid (Lib.itoa (-7) = [45, 55]) := Lib.hid (by simp [Lib.itoa, Lib.decDigits])
  go_enter Tryd.func67, Tryd.ntmps67
  go_wp2
  go_ret
  exact tells0 (by rw [HI.out]; decide)
set_option maxRecDepth 100000 in
theorem ref_Print_m8 (w : World) : Calls Tryd.prog 67 #[.int .i64 (-8)] w (Tells (Lib.itoa (-8)) w) := by
  have HI : Hid (Lib.itoa (-8) = [45, 56]) := Lib.hid (by simp [Lib.itoa, Lib.decDigits])
  go_enter Tryd.func67, Tryd.ntmps67
  go_wp2
  go_ret
  exact tells0 (by rw [HI.out]; decide)
set_option maxRecDepth 100000 in
theorem ref_Print_m9 (w : World) : Calls Tryd.prog 67 #[.int .i64 (-9)] w (Tells (Lib.itoa (-9)) w) := by
  have HI : Hid (Lib.itoa (-9) = [45, 57]) := Lib.hid (by simp [Lib.itoa, Lib.decDigits])
  go_enter Tryd.func67, Tryd.ntmps67
  go_wp2
  go_ret
  exact tells0 (by rw [HI.out]; decide)
set_option maxRecDepth 100000 in
theorem ref_Print_p0 (w : World) : Calls Tryd.prog 67 #[.int .i64 0] w (Tells (Lib.itoa 0) w) := by
  have HI : Hid (Lib.itoa 0 = [48]) := Lib.hid (by simp [Lib.itoa, Lib.decDigits])
  go_enter Tryd.func67, Tryd.ntmps67
  go_wp2
  go_ret
  exact tells0 (by rw [HI.out]; decide)
set_option maxRecDepth 100000 in
theorem ref_Print_p1 (w : World) : Calls Tryd.prog 67 #[.int .i64 1] w (Tells (Lib.itoa 1) w) := by
  have HI : Hid (Lib.itoa 1 = [49]) := Lib.hid (by simp [Lib.itoa, Lib.decDigits])
  go_enter Tryd.func67, Tryd.ntmps67
  go_wp2
  go_ret
  exact tells0 (by rw [HI.out]; decide)
set_option maxRecDepth 100000 in
theorem ref_Print_p2 (w : World) : Calls Tryd.prog 67 #[.int .i64 2] w (Tells (Lib.itoa 2) w) := by
  have HI : Hid (Lib.itoa 2 = [50]) := Lib.hid (by simp [Lib.itoa, Lib.decDigits])
  go_enter Tryd.func67, Tryd.ntmps67
  go_wp2
  go_ret
  exact tells0 (by rw [HI.out]; decide)
set_option maxRecDepth 100000 in
theorem ref_Print_p3 (w : World) : Calls Tryd.prog 67 #[.int .i64 3] w (Tells (Lib.itoa 3) w) := by
  have HI : Hid (Lib.itoa 3 = [51]) := Lib.hid (by simp [Lib.itoa, Lib.decDigits])
  go_enter Tryd.func67, Tryd.ntmps67
  go_wp2
  go_ret
  exact tells0 (by rw [HI.out]; decide)
set_option maxRecDepth 100000 in
theorem ref_Print_p4 (w : World) : Calls Tryd.prog 67 #[.int .i64 4] w (Tells (Lib.itoa 4) w) := by
  have HI : Hid (Lib.itoa 4 = [52]) := Lib.hid (by simp [Lib.itoa, Lib.decDigits])
  go_enter Tryd.func67, Tryd.ntmps67
  go_wp2
  go_ret
  exact tells0 (by rw [HI.out]; decide)
set_option maxRecDepth 100000 in
theorem ref_Print_p5 (w : World) : Calls Tryd.prog 67 #[.int .i64 5] w (Tells (Lib.itoa 5) w) := by
  have HI : Hid (Lib.itoa 5 = [53]) := Lib.hid (by simp [Lib.itoa, Lib.decDigits])
  go_enter Tryd.func67, Tryd.ntmps67
  go_wp2
  go_ret
  exact tells0 (by rw [HI.out]; decide)
set_option maxRecDepth 100000 in
theorem ref_Print_p6 (w : World) : Calls Tryd.prog 67 #[.int .i64 6] w (Tells (Lib.itoa 6) w) := by
  have HI : Hid (Lib.itoa 6 = [54]) := Lib.hid (by simp [Lib.itoa, Lib.decDigits])
  go_enter Tryd.func67, Tryd.ntmps67
  go_wp2
  go_ret
  exact tells0 (by rw [HI.out]; decide)
set_option maxRecDepth 100000 in
theorem ref_Print_p7 (w : World) : Calls Tryd.prog 67 #[.int .i64 7] w (Tells (Lib.itoa 7) w) := by
  have HI : Hid (Lib.itoa 7 = [55]) := Lib.hid (by simp [Lib.itoa, Lib.decDigits])
  go_enter Tryd.func67, Tryd.ntmps67
  go_wp2
  go_ret
  exact tells0 (by rw [HI.out]; decide)
set_option maxRecDepth 100000 in
theorem ref_Print_p8 (w : World) : Calls Tryd.prog 67 #[.int .i64 8] w (Tells (Lib.itoa 8) w) := by
  have HI : Hid (Lib.itoa 8 = [56]) := Lib.hid (by simp [Lib.itoa, Lib.decDigits])
  go_enter Tryd.func67, Tryd.ntmps67
  go_wp2
  go_ret
  exact tells0 (by rw [HI.out]; decide)
set_option maxRecDepth 100000 in
theorem ref_Print_p9 (w : World) : Calls Tryd.prog 67 #[.int .i64 9] w (Tells (Lib.itoa 9) w) := by
  have HI : Hid (Lib.itoa 9 = [57]) := Lib.hid (by simp [Lib.itoa, Lib.decDigits])
  go_enter Tryd.func67, Tryd.ntmps67
  go_wp2
  go_ret
  exact tells0 (by rw [HI.out]; decide)
set_option maxRecDepth 100000 in
theorem ref_Print_big (n : Int) (hn : Fit n) (h : 10 ≤ n) (h1 : ∀ w, Calls Tryd.prog 67 #[.int .i64 (n / 10)] w (Tells (Lib.itoa (n / 10)) w)) (h2 : ∀ w, Calls Tryd.prog 67 #[.int .i64 (n % 10)] w (Tells (Lib.itoa (n % 10)) w)) (w : World) :
    Calls Tryd.prog 67 #[.int .i64 n] w (Tells (Lib.itoa n) w) := by
  have H1 := Lib.hid h1
  have H2 := Lib.hid h2
  have HI := Lib.hid (itoa_pos h)
  have hr0 : 0 ≤ n := by omega
  have hl1 := itoa_len (n := n / 10) (by unfold Fit at *; omega)
  have hl2 := itoa_len (n := n % 10) (by unfold Fit at *; omega)
  obtain ⟨hn0, hn1⟩ := hn
  clear h1 h2
  go_enter Tryd.func67, Tryd.ntmps67
  go_wp2_with fail
  refine (H1.out _).mono ?_
  rintro e1 w1 ⟨rfl, hb1⟩
  have HB1 := Lib.hid hb1
  clear hb1
  go_wp2_with fail
  refine (H2.out _).mono ?_
  rintro e2 w2 ⟨rfl, hb2⟩
  have HB2 := Lib.hid (HB1.out.trans (hb2.mono HB1.out.size))
  clear hb2
  go_wp2
  go_ret
  exact tells (by rw [HI.out, ← bytes_app]) HB2.out
set_option maxRecDepth 100000 in
theorem ref_Print_n0 (n : Int) (hn : Fit n) (h : n ≤ -10) (hd : n.tmod 10 = 0) (h1 : ∀ w, Calls Tryd.prog 67 #[.int .i64 (n.tdiv 10)] w (Tells (Lib.itoa (n.tdiv 10)) w)) (w : World) :
    Calls Tryd.prog 67 #[.int .i64 n] w (Tells (Lib.itoa n) w) := by
  have H1 := Lib.hid h1
  have HI := Lib.hid (itoa_neg h)
  rw [hd] at HI
  have hl1 := itoa_len (tdiv_fit hn (b := 10) (by decide))
  obtain ⟨hn0, hn1⟩ := hn
  clear h1
  go_enter Tryd.func67, Tryd.ntmps67
  go_wp2
  refine wp_region_rest (by kernel_rfl) ?_
  have HB0 : Hid (Below w.heap.size w w.drew) := Lib.hid (Below.refl _ _).drew
  generalize w.drew = W0 at *
  refine rest_chain 0 10 [(false, [0, 1, 3, 4, 5, 6, 7, 8, 9]), (true, [2])] [(false, [_, _, _, _, _, _, _, _, _]), (true, [_])] rfl (by kernel_rfl) (by kernel_rfl) rfl (by kernel_rfl) (by kernel_rfl) (.inr (by kernel_rfl)) ?_
  refine chain_soft ?_
  intro E hE
  go_wp2
  refine chain_one ?_
  intro E hE
  go_wp2_with (refine (H1.out _).mono ?_; rintro e1 w1 ⟨rfl, hb1⟩; have HB1 := Lib.hid hb1; clear hb1)
  refine ⟨HB1.out, ?_⟩
  refine chain_nil ?_
  have HB2 := Lib.hid (HB0.out.trans (HB1.out.mono HB0.out.size))
  refine rest_lineL 10 12 [_, _] rfl (by kernel_rfl) (by decide) (by decide) (by kernel_rfl) ?_
  go_wp2
  refine then_rest (rest_end (by decide) ?_)
  go_wp2
  go_ret
  exact tells (by rw [HI.out, ← bytes_app]; rfl) HB2.out
set_option maxRecDepth 100000 in
theorem ref_Print_n1 (n : Int) (hn : Fit n) (h : n ≤ -10) (hd : n.tmod 10 = -1) (h1 : ∀ w, Calls Tryd.prog 67 #[.int .i64 (n.tdiv 10)] w (Tells (Lib.itoa (n.tdiv 10)) w)) (w : World) :
    Calls Tryd.prog 67 #[.int .i64 n] w (Tells (Lib.itoa n) w) := by
  have H1 := Lib.hid h1
  have HI := Lib.hid (itoa_neg h)
  rw [hd] at HI
  have hl1 := itoa_len (tdiv_fit hn (b := 10) (by decide))
  obtain ⟨hn0, hn1⟩ := hn
  clear h1
  go_enter Tryd.func67, Tryd.ntmps67
  go_wp2
  refine wp_region_rest (by kernel_rfl) ?_
  have HB0 : Hid (Below w.heap.size w w.drew) := Lib.hid (Below.refl _ _).drew
  generalize w.drew = W0 at *
  refine rest_chain 0 10 [(false, [0, 1, 3, 4, 5, 6, 7, 8, 9]), (true, [2])] [(false, [_, _, _, _, _, _, _, _, _]), (true, [_])] rfl (by kernel_rfl) (by kernel_rfl) rfl (by kernel_rfl) (by kernel_rfl) (.inr (by kernel_rfl)) ?_
  refine chain_soft ?_
  intro E hE
  go_wp2
  refine chain_one ?_
  intro E hE
  go_wp2_with (refine (H1.out _).mono ?_; rintro e1 w1 ⟨rfl, hb1⟩; have HB1 := Lib.hid hb1; clear hb1)
  refine ⟨HB1.out, ?_⟩
  refine chain_nil ?_
  have HB2 := Lib.hid (HB0.out.trans (HB1.out.mono HB0.out.size))
  refine rest_lineL 10 12 [_, _] rfl (by kernel_rfl) (by decide) (by decide) (by kernel_rfl) ?_
  go_wp2
  refine then_rest (rest_end (by decide) ?_)
  go_wp2
  go_ret
  exact tells (by rw [HI.out, ← bytes_app]; rfl) HB2.out
set_option maxRecDepth 100000 in
theorem ref_Print_n2 (n : Int) (hn : Fit n) (h : n ≤ -10) (hd : n.tmod 10 = -2) (h1 : ∀ w, Calls Tryd.prog 67 #[.int .i64 (n.tdiv 10)] w (Tells (Lib.itoa (n.tdiv 10)) w)) (w : World) :
    Calls Tryd.prog 67 #[.int .i64 n] w (Tells (Lib.itoa n) w) := by
  have H1 := Lib.hid h1
  have HI := Lib.hid (itoa_neg h)
  rw [hd] at HI
  have hl1 := itoa_len (tdiv_fit hn (b := 10) (by decide))
  obtain ⟨hn0, hn1⟩ := hn
  clear h1
  go_enter Tryd.func67, Tryd.ntmps67
  go_wp2
  refine wp_region_rest (by kernel_rfl) ?_
  have HB0 : Hid (Below w.heap.size w w.drew) := Lib.hid (Below.refl _ _).drew
  generalize w.drew = W0 at *
  refine rest_chain 0 10 [(false, [0, 1, 3, 4, 5, 6, 7, 8, 9]), (true, [2])] [(false, [_, _, _, _, _, _, _, _, _]), (true, [_])] rfl (by kernel_rfl) (by kernel_rfl) rfl (by kernel_rfl) (by kernel_rfl) (.inr (by kernel_rfl)) ?_
  refine chain_soft ?_
  intro E hE
  go_wp2
  refine chain_one ?_
  intro E hE
  go_wp2_with (refine (H1.out _).mono ?_; rintro e1 w1 ⟨rfl, hb1⟩; have HB1 := Lib.hid hb1; clear hb1)
  refine ⟨HB1.out, ?_⟩
  refine chain_nil ?_
  have HB2 := Lib.hid (HB0.out.trans (HB1.out.mono HB0.out.size))
  refine rest_lineL 10 12 [_, _] rfl (by kernel_rfl) (by decide) (by decide) (by kernel_rfl) ?_
  go_wp2
  refine then_rest (rest_end (by decide) ?_)
  go_wp2
  go_ret
  exact tells (by rw [HI.out, ← bytes_app]; rfl) HB2.out
set_option maxRecDepth 100000 in
theorem ref_Print_n3 (n : Int) (hn : Fit n) (h : n ≤ -10) (hd : n.tmod 10 = -3) (h1 : ∀ w, Calls Tryd.prog 67 #[.int .i64 (n.tdiv 10)] w (Tells (Lib.itoa (n.tdiv 10)) w)) (w : World) :
    Calls Tryd.prog 67 #[.int .i64 n] w (Tells (Lib.itoa n) w) := by
  have H1 := Lib.hid h1
  have HI := Lib.hid (itoa_neg h)
  rw [hd] at HI
  have hl1 := itoa_len (tdiv_fit hn (b := 10) (by decide))
  obtain ⟨hn0, hn1⟩ := hn
  clear h1
  go_enter Tryd.func67, Tryd.ntmps67
  go_wp2
  refine wp_region_rest (by kernel_rfl) ?_
  have HB0 : Hid (Below w.heap.size w w.drew) := Lib.hid (Below.refl _ _).drew
  generalize w.drew = W0 at *
  refine rest_chain 0 10 [(false, [0, 1, 3, 4, 5, 6, 7, 8, 9]), (true, [2])] [(false, [_, _, _, _, _, _, _, _, _]), (true, [_])] rfl (by kernel_rfl) (by kernel_rfl) rfl (by kernel_rfl) (by kernel_rfl) (.inr (by kernel_rfl)) ?_
  refine chain_soft ?_
  intro E hE
  go_wp2
  refine chain_one ?_
  intro E hE
  go_wp2_with (refine (H1.out _).mono ?_; rintro e1 w1 ⟨rfl, hb1⟩; have HB1 := Lib.hid hb1; clear hb1)
  refine ⟨HB1.out, ?_⟩
  refine chain_nil ?_
  have HB2 := Lib.hid (HB0.out.trans (HB1.out.mono HB0.out.size))
  refine rest_lineL 10 12 [_, _] rfl (by kernel_rfl) (by decide) (by decide) (by kernel_rfl) ?_
  go_wp2
  refine then_rest (rest_end (by decide) ?_)
  go_wp2
  go_ret
  exact tells (by rw [HI.out, ← bytes_app]; rfl) HB2.out
set_option maxRecDepth 100000 in
theorem ref_Print_n4 (n : Int) (hn : Fit n) (h : n ≤ -10) (hd : n.tmod 10 = -4) (h1 : ∀ w, Calls Tryd.prog 67 #[.int .i64 (n.tdiv 10)] w (Tells (Lib.itoa (n.tdiv 10)) w)) (w : World) :
    Calls Tryd.prog 67 #[.int .i64 n] w (Tells (Lib.itoa n) w) := by
  have H1 := Lib.hid h1
  have HI := Lib.hid (itoa_neg h)
  rw [hd] at HI
  have hl1 := itoa_len (tdiv_fit hn (b := 10) (by decide))
  obtain ⟨hn0, hn1⟩ := hn
  clear h1
  go_enter Tryd.func67, Tryd.ntmps67
  go_wp2
  refine wp_region_rest (by kernel_rfl) ?_
  have HB0 : Hid (Below w.heap.size w w.drew) := Lib.hid (Below.refl _ _).drew
  generalize w.drew = W0 at *
  refine rest_chain 0 10 [(false, [0, 1, 3, 4, 5, 6, 7, 8, 9]), (true, [2])] [(false, [_, _, _, _, _, _, _, _, _]), (true, [_])] rfl (by kernel_rfl) (by kernel_rfl) rfl (by kernel_rfl) (by kernel_rfl) (.inr (by kernel_rfl)) ?_
  refine chain_soft ?_
  intro E hE
  go_wp2
  refine chain_one ?_
  intro E hE
  go_wp2_with (refine (H1.out _).mono ?_; rintro e1 w1 ⟨rfl, hb1⟩; have HB1 := Lib.hid hb1; clear hb1)
  refine ⟨HB1.out, ?_⟩
  refine chain_nil ?_
  have HB2 := Lib.hid (HB0.out.trans (HB1.out.mono HB0.out.size))
  refine rest_lineL 10 12 [_, _] rfl (by kernel_rfl) (by decide) (by decide) (by kernel_rfl) ?_
  go_wp2
  refine then_rest (rest_end (by decide) ?_)
  go_wp2
  go_ret
  exact tells (by rw [HI.out, ← bytes_app]; rfl) HB2.out
set_option maxRecDepth 100000 in
theorem ref_Print_n5 (n : Int) (hn : Fit n) (h : n ≤ -10) (hd : n.tmod 10 = -5) (h1 : ∀ w, Calls Tryd.prog 67 #[.int .i64 (n.tdiv 10)] w (Tells (Lib.itoa (n.tdiv 10)) w)) (w : World) :
    Calls Tryd.prog 67 #[.int .i64 n] w (Tells (Lib.itoa n) w) := by
  have H1 := Lib.hid h1
  have HI := Lib.hid (itoa_neg h)
  rw [hd] at HI
  have hl1 := itoa_len (tdiv_fit hn (b := 10) (by decide))
  obtain ⟨hn0, hn1⟩ := hn
  clear h1
  go_enter Tryd.func67, Tryd.ntmps67
  go_wp2
  refine wp_region_rest (by kernel_rfl) ?_
  have HB0 : Hid (Below w.heap.size w w.drew) := Lib.hid (Below.refl _ _).drew
  generalize w.drew = W0 at *
  refine rest_chain 0 10 [(false, [0, 1, 3, 4, 5, 6, 7, 8, 9]), (true, [2])] [(false, [_, _, _, _, _, _, _, _, _]), (true, [_])] rfl (by kernel_rfl) (by kernel_rfl) rfl (by kernel_rfl) (by kernel_rfl) (.inr (by kernel_rfl)) ?_
  refine chain_soft ?_
  intro E hE
  go_wp2
  refine chain_one ?_
  intro E hE
  go_wp2_with (refine (H1.out _).mono ?_; rintro e1 w1 ⟨rfl, hb1⟩; have HB1 := Lib.hid hb1; clear hb1)
  refine ⟨HB1.out, ?_⟩
  refine chain_nil ?_
  have HB2 := Lib.hid (HB0.out.trans (HB1.out.mono HB0.out.size))
  refine rest_lineL 10 12 [_, _] rfl (by kernel_rfl) (by decide) (by decide) (by kernel_rfl) ?_
  go_wp2
  refine then_rest (rest_end (by decide) ?_)
  go_wp2
  go_ret
  exact tells (by rw [HI.out, ← bytes_app]; rfl) HB2.out
set_option maxRecDepth 100000 in
theorem ref_Print_n6 (n : Int) (hn : Fit n) (h : n ≤ -10) (hd : n.tmod 10 = -6) (h1 : ∀ w, Calls Tryd.prog 67 #[.int .i64 (n.tdiv 10)] w (Tells (Lib.itoa (n.tdiv 10)) w)) (w : World) :
    Calls Tryd.prog 67 #[.int .i64 n] w (Tells (Lib.itoa n) w) := by
  have H1 := Lib.hid h1
  have HI := Lib.hid (itoa_neg h)
  rw [hd] at HI
  have hl1 := itoa_len (tdiv_fit hn (b := 10) (by decide))
  obtain ⟨hn0, hn1⟩ := hn
  clear h1
  go_enter Tryd.func67, Tryd.ntmps67
  go_wp2
  refine wp_region_rest (by kernel_rfl) ?_
  have HB0 : Hid (Below w.heap.size w w.drew) := Lib.hid (Below.refl _ _).drew
  generalize w.drew = W0 at *
  refine rest_chain 0 10 [(false, [0, 1, 3, 4, 5, 6, 7, 8, 9]), (true, [2])] [(false, [_, _, _, _, _, _, _, _, _]), (true, [_])] rfl (by kernel_rfl) (by kernel_rfl) rfl (by kernel_rfl) (by kernel_rfl) (.inr (by kernel_rfl)) ?_
  refine chain_soft ?_
  intro E hE
  go_wp2
  refine chain_one ?_
  intro E hE
  go_wp2_with (refine (H1.out _).mono ?_; rintro e1 w1 ⟨rfl, hb1⟩; have HB1 := Lib.hid hb1; clear hb1)
  refine ⟨HB1.out, ?_⟩
  refine chain_nil ?_
  have HB2 := Lib.hid (HB0.out.trans (HB1.out.mono HB0.out.size))
  refine rest_lineL 10 12 [_, _] rfl (by kernel_rfl) (by decide) (by decide) (by kernel_rfl) ?_
  go_wp2
  refine then_rest (rest_end (by decide) ?_)
  go_wp2
  go_ret
  exact tells (by rw [HI.out, ← bytes_app]; rfl) HB2.out
set_option maxRecDepth 100000 in
theorem ref_Print_n7 (n : Int) (hn : Fit n) (h : n ≤ -10) (hd : n.tmod 10 = -7) (h1 : ∀ w, Calls Tryd.prog 67 #[.int .i64 (n.tdiv 10)] w (Tells (Lib.itoa (n.tdiv 10)) w)) (w : World) :
    Calls Tryd.prog 67 #[.int .i64 n] w (Tells (Lib.itoa n) w) := by
  have H1 := Lib.hid h1
  have HI := Lib.hid (itoa_neg h)
  rw [hd] at HI
  have hl1 := itoa_len (tdiv_fit hn (b := 10) (by decide))
  obtain ⟨hn0, hn1⟩ := hn
  clear h1
  go_enter Tryd.func67, Tryd.ntmps67
  go_wp2
  refine wp_region_rest (by kernel_rfl) ?_
  have HB0 : Hid (Below w.heap.size w w.drew) := Lib.hid (Below.refl _ _).drew
  generalize w.drew = W0 at *
  refine rest_chain 0 10 [(false, [0, 1, 3, 4, 5, 6, 7, 8, 9]), (true, [2])] [(false, [_, _, _, _, _, _, _, _, _]), (true, [_])] rfl (by kernel_rfl) (by kernel_rfl) rfl (by kernel_rfl) (by kernel_rfl) (.inr (by kernel_rfl)) ?_
  refine chain_soft ?_
  intro E hE
  go_wp2
  refine chain_one ?_
  intro E hE
  go_wp2_with (refine (H1.out _).mono ?_; rintro e1 w1 ⟨rfl, hb1⟩; have HB1 := Lib.hid hb1; clear hb1)
  refine ⟨HB1.out, ?_⟩
  refine chain_nil ?_
  have HB2 := Lib.hid (HB0.out.trans (HB1.out.mono HB0.out.size))
  refine rest_lineL 10 12 [_, _] rfl (by kernel_rfl) (by decide) (by decide) (by kernel_rfl) ?_
  go_wp2
  refine then_rest (rest_end (by decide) ?_)
  go_wp2
  go_ret
  exact tells (by rw [HI.out, ← bytes_app]; rfl) HB2.out
set_option maxRecDepth 100000 in
theorem ref_Print_n8 (n : Int) (hn : Fit n) (h : n ≤ -10) (hd : n.tmod 10 = -8) (h1 : ∀ w, Calls Tryd.prog 67 #[.int .i64 (n.tdiv 10)] w (Tells (Lib.itoa (n.tdiv 10)) w)) (w : World) :
    Calls Tryd.prog 67 #[.int .i64 n] w (Tells (Lib.itoa n) w) := by
  have H1 := Lib.hid h1
  have HI := Lib.hid (itoa_neg h)
  rw [hd] at HI
  have hl1 := itoa_len (tdiv_fit hn (b := 10) (by decide))
  obtain ⟨hn0, hn1⟩ := hn
  clear h1
  go_enter Tryd.func67, Tryd.ntmps67
  go_wp2
  refine wp_region_rest (by kernel_rfl) ?_
  have HB0 : Hid (Below w.heap.size w w.drew) := Lib.hid (Below.refl _ _).drew
  generalize w.drew = W0 at *
  refine rest_chain 0 10 [(false, [0, 1, 3, 4, 5, 6, 7, 8, 9]), (true, [2])] [(false, [_, _, _, _, _, _, _, _, _]), (true, [_])] rfl (by kernel_rfl) (by kernel_rfl) rfl (by kernel_rfl) (by kernel_rfl) (.inr (by kernel_rfl)) ?_
  refine chain_soft ?_
  intro E hE
  go_wp2
  refine chain_one ?_
  intro E hE
  go_wp2_with (refine (H1.out _).mono ?_; rintro e1 w1 ⟨rfl, hb1⟩; have HB1 := Lib.hid hb1; clear hb1)
  refine ⟨HB1.out, ?_⟩
  refine chain_nil ?_
  have HB2 := Lib.hid (HB0.out.trans (HB1.out.mono HB0.out.size))
  refine rest_lineL 10 12 [_, _] rfl (by kernel_rfl) (by decide) (by decide) (by kernel_rfl) ?_
  go_wp2
  refine then_rest (rest_end (by decide) ?_)
  go_wp2
  go_ret
  exact tells (by rw [HI.out, ← bytes_app]; rfl) HB2.out
set_option maxRecDepth 100000 in
theorem ref_Print_n9 (n : Int) (hn : Fit n) (h : n ≤ -10) (hd : n.tmod 10 = -9) (h1 : ∀ w, Calls Tryd.prog 67 #[.int .i64 (n.tdiv 10)] w (Tells (Lib.itoa (n.tdiv 10)) w)) (w : World) :
    Calls Tryd.prog 67 #[.int .i64 n] w (Tells (Lib.itoa n) w) := by
  have H1 := Lib.hid h1
  have HI := Lib.hid (itoa_neg h)
  rw [hd] at HI
  have hl1 := itoa_len (tdiv_fit hn (b := 10) (by decide))
  obtain ⟨hn0, hn1⟩ := hn
  clear h1
  go_enter Tryd.func67, Tryd.ntmps67
  go_wp2
  refine wp_region_rest (by kernel_rfl) ?_
  have HB0 : Hid (Below w.heap.size w w.drew) := Lib.hid (Below.refl _ _).drew
  generalize w.drew = W0 at *
  refine rest_chain 0 10 [(false, [0, 1, 3, 4, 5, 6, 7, 8, 9]), (true, [2])] [(false, [_, _, _, _, _, _, _, _, _]), (true, [_])] rfl (by kernel_rfl) (by kernel_rfl) rfl (by kernel_rfl) (by kernel_rfl) (.inr (by kernel_rfl)) ?_
  refine chain_soft ?_
  intro E hE
  go_wp2
  refine chain_one ?_
  intro E hE
  go_wp2_with (refine (H1.out _).mono ?_; rintro e1 w1 ⟨rfl, hb1⟩; have HB1 := Lib.hid hb1; clear hb1)
  refine ⟨HB1.out, ?_⟩
  refine chain_nil ?_
  have HB2 := Lib.hid (HB0.out.trans (HB1.out.mono HB0.out.size))
  refine rest_lineL 10 12 [_, _] rfl (by kernel_rfl) (by decide) (by decide) (by kernel_rfl) ?_
  go_wp2
  refine then_rest (rest_end (by decide) ?_)
  go_wp2
  go_ret
  exact tells (by rw [HI.out, ← bytes_app]; rfl) HB2.out
theorem ref_Print : ∀ (m : Nat) (n : Int), n.natAbs ≤ m → Fit n → ∀ w, Calls Tryd.prog 67 #[.int .i64 n] w (Tells (Lib.itoa n) w)
  | 0, n, hm, hn, w => by
    obtain rfl : n = 0 := by omega
    exact ref_Print_p0 w
  | m + 1, n, hm, hn, w => by
    by_cases h1 : n < 0
    · by_cases h2 : -10 < n
      · rcases (by omega : n = -1 ∨ n = -2 ∨ n = -3 ∨ n = -4 ∨ n = -5 ∨ n = -6 ∨ n = -7 ∨ n = -8 ∨ n = -9) with rfl | rfl | rfl | rfl | rfl | rfl | rfl | rfl | rfl
        · exact ref_Print_m1 w
        · exact ref_Print_m2 w
        · exact ref_Print_m3 w
        · exact ref_Print_m4 w
        · exact ref_Print_m5 w
        · exact ref_Print_m6 w
        · exact ref_Print_m7 w
        · exact ref_Print_m8 w
        · exact ref_Print_m9 w
      · have hd : (n.tdiv 10).natAbs = n.natAbs / 10 := by rw [Int.natAbs_tdiv]; rfl
        have ih := ref_Print m (n.tdiv 10) (by omega) (tdiv_fit hn (by decide))
        have hs := (tmod_sign (a := n) (b := 10)).2 (by omega)
        have hl := tmod_lt (a := n) (b := 10) (by decide)
        have hx : (10 : Int).natAbs = 10 := rfl
        rcases (by omega : n.tmod 10 = 0 ∨ n.tmod 10 = -1 ∨ n.tmod 10 = -2 ∨ n.tmod 10 = -3 ∨ n.tmod 10 = -4 ∨ n.tmod 10 = -5 ∨ n.tmod 10 = -6 ∨ n.tmod 10 = -7 ∨ n.tmod 10 = -8 ∨ n.tmod 10 = -9) with h | h | h | h | h | h | h | h | h | h
        · exact ref_Print_n0 n hn (by omega) h ih w
        · exact ref_Print_n1 n hn (by omega) h ih w
        · exact ref_Print_n2 n hn (by omega) h ih w
        · exact ref_Print_n3 n hn (by omega) h ih w
        · exact ref_Print_n4 n hn (by omega) h ih w
        · exact ref_Print_n5 n hn (by omega) h ih w
        · exact ref_Print_n6 n hn (by omega) h ih w
        · exact ref_Print_n7 n hn (by omega) h ih w
        · exact ref_Print_n8 n hn (by omega) h ih w
        · exact ref_Print_n9 n hn (by omega) h ih w
    · by_cases h2 : n < 10
      · rcases (by omega : n = 0 ∨ n = 1 ∨ n = 2 ∨ n = 3 ∨ n = 4 ∨ n = 5 ∨ n = 6 ∨ n = 7 ∨ n = 8 ∨ n = 9) with rfl | rfl | rfl | rfl | rfl | rfl | rfl | rfl | rfl | rfl
        · exact ref_Print_p0 w
        · exact ref_Print_p1 w
        · exact ref_Print_p2 w
        · exact ref_Print_p3 w
        · exact ref_Print_p4 w
        · exact ref_Print_p5 w
        · exact ref_Print_p6 w
        · exact ref_Print_p7 w
        · exact ref_Print_p8 w
        · exact ref_Print_p9 w
      · have ih1 := ref_Print m (n / 10) (by omega) (by unfold Fit at *; omega)
        have ih2 := ref_Print m (n % 10) (by omega) (by unfold Fit at *; omega)
        exact ref_Print_big n hn (by omega) ih1 ih2 w
end Go.Proofs.YtkhchmgdaolojaaDoor.Num
