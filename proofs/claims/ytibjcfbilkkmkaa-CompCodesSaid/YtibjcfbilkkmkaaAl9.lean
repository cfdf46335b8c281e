
/-
  The statements of layer 19: alive, walked over the program.
-/
import Derived.Test.YtibjcfbilkkmkaaCpl
import Derived.Test.YtibjcfbilkkmkaaAl3
import Derived.Test.YtibjcfbilkkmkaaCodW
namespace Go.Proofs.Ytibjcfbilkkmkaa.Tms
open Go Go.RowKit Go.Proofs.Ytibjcfbilkkmkaa.Reg Go.Proofs.Ytibjcfbilkkmkaa.Rws Go.Proofs.Ytibjcfbilkkmkaa.Cod Go.Proofs.Ytibjcfbilkkmkaa.Maps
set_option linter.unusedVariables false

theorem l9_v (n : Int) (w : World) : Calls Try.prog 26 #[.int .i64 n] w fun e w' => e = .returned (varV n) ∧ Below w.heap.size w w' := by
  go_enter Try.func26, Try.ntmps26
  go_wp2
  exact bodyPost_ret (v := varV n) (by simp [results, Try.results26, go_sem]) rfl ⟨rfl, (Below.refl _ _).alloc (Nat.le_refl _) _⟩
theorem l9_f (s : ByteArray) (a : Option Addr) (n cap : Nat) (w : World) : Calls Try.prog 25 #[.string s, .slice a n cap] w fun e w' => e = .returned (compV s a n cap) ∧ Below w.heap.size w w' := by
  go_enter Try.func25, Try.ntmps25
  go_wp2
  exact bodyPost_ret (v := compV s a n cap) (by simp [results, Try.results25, go_sem]) rfl ⟨rfl, (Below.refl _ _).alloc (Nat.le_refl _) _⟩

def ex9H : Tm := compT (⟨#[112]⟩ : ByteArray) [varT 3, varT 5]
def ex9B : Tm := compT (⟨#[113]⟩ : ByteArray) [varT 3]
def ex9L : List Ins := [⟨2, 0, 0, ⟨#[]⟩⟩, ⟨1, 0, 0, ⟨#[]⟩⟩, ⟨6, 1, 0, (⟨#[113]⟩ : ByteArray)⟩, ⟨3, 0, 0, ⟨#[]⟩⟩]
def ex9C : Cod := ⟨(⟨#[112]⟩ : ByteArray), 2, 1, 2, ex9L⟩
theorem ex9_comp : compE ex9H ex9B = (ex9C, 0) := by
  unfold compE
  rw [if_neg (by decide +kernel), if_neg (by decide +kernel), if_neg (by decide), if_neg (by decide +kernel)]
  rfl
theorem ex9_sl (w : World) : InsSl (w.alloc (.cells #[.int .i64 2, .int .i64 0, .int .i64 0, .string ⟨#[]⟩, .int .i64 1, .int .i64 0, .int .i64 0, .string ⟨#[]⟩, .int .i64 6, .int .i64 1, .int .i64 0, .string (⟨#[113]⟩ : ByteArray), .int .i64 3, .int .i64 0, .int .i64 0, .string ⟨#[]⟩] 54 (0, 0))) (.slice (some ⟨w.heap.size, 0, none⟩) 4 4) ex9L := by
  have h := heap_alloc_new w (.cells #[.int .i64 2, .int .i64 0, .int .i64 0, .string ⟨#[]⟩, .int .i64 1, .int .i64 0, .int .i64 0, .string ⟨#[]⟩, .int .i64 6, .int .i64 1, .int .i64 0, .string (⟨#[113]⟩ : ByteArray), .int .i64 3, .int .i64 0, .int .i64 0, .string ⟨#[]⟩] 54 (0, 0))
  have hc := fun k => cell_of_row _ _ k _ _ _ h
  refine ⟨_, _, rfl, fun j hj => ⟨_, 0, rfl, ?_⟩⟩
  match j, hj with
  | 0, _ => exact ⟨hc 0, hc 1, hc 2, hc 3⟩
  | 1, _ => exact ⟨hc 4, hc 5, hc 6, hc 7⟩
  | 2, _ => exact ⟨hc 8, hc 9, hc 10, hc 11⟩
  | 3, _ => exact ⟨hc 12, hc 13, hc 14, hc 15⟩
  | j + 4, h => exact absurd h (by simp [ex9L])

theorem ex9_go (v1 v2 : Value) (P1 P2 : Nat → Prop) (w : World) (h1 : IsTm w P1 v1 ex9H) (h2 : IsTm w P2 v2 ex9B) :
    Calls Try.prog 11 #[v1, v2] w fun e w' => ∃ a c, e = .returned (.tuple #[.agg #[.string (⟨#[112]⟩ : ByteArray), .int .i64 2, .int .i64 1, .int .i64 2, .slice a 4 c], .int .i64 0]) ∧ InsSl w' (.slice a 4 c) ex9L ∧ Below w.heap.size w w' := by
  refine (go_Compile ex9H ex9B v1 v2 P1 P2 w (by decide) (by decide) h1 h2).mono ?_
  rintro e w8 ⟨v8, rfl, hi8, hb8⟩
  rw [ex9_comp] at hi8 ⊢
  obtain ⟨a8, c8, rfl⟩ := hi8.form
  exact ⟨a8, c8, rfl, hi8, hb8⟩
set_option maxRecDepth 100000 in
set_option maxHeartbeats 4000000 in
theorem l9_alive (w : World) : Calls Try.prog 7 #[] w (Says true w) := by
  go_enter Try.func7, Try.ntmps7
  go_wp2_with fail
  refine (l9_v 3 _).mono ?_
  rintro e w1 ⟨rfl, hb1⟩
  have HB1 := Lib.hid hb1
  clear hb1
  go_wp2_with fail
  refine (l9_v 5 _).mono ?_
  rintro e w2 ⟨rfl, hb2⟩
  have HB2 := Lib.hid (HB1.out.trans (hb2.mono HB1.out.size))
  clear hb2
  go_wp2_with fail
  have ha3 : Below w2.heap.size w2 (w2.alloc (.cells #[.int .i64 1, .int .i64 3, .string ⟨#[]⟩, .slice none 0 0, .int .i64 1, .int .i64 5, .string ⟨#[]⟩, .slice none 0 0] 30 (0, 0))) := (Below.refl _ _).alloc (Nat.le_refl _) _
  have hr3 : IsSl (w2.alloc (.cells #[.int .i64 1, .int .i64 3, .string ⟨#[]⟩, .slice none 0 0, .int .i64 1, .int .i64 5, .string ⟨#[]⟩, .slice none 0 0] 30 (0, 0))) AnyB (.slice (some ⟨w2.heap.size, 0, none⟩) 2 2) [varT 3, varT 5] := row2 (x := varT 3) (y := varT 5) (var_is _ _ 3) (var_is _ _ 5)
  have HB3 := Lib.hid (HB2.out.trans (ha3.mono HB2.out.size))
  generalize (w2.alloc (.cells #[.int .i64 1, .int .i64 3, .string ⟨#[]⟩, .slice none 0 0, .int .i64 1, .int .i64 5, .string ⟨#[]⟩, .slice none 0 0] 30 (0, 0))) = u3 at *
  refine (l9_f _ _ _ _ _).mono ?_
  rintro e w4 ⟨rfl, hb4⟩
  have HI4 : Hid (IsTm w4 AnyB (compV (⟨#[112]⟩ : ByteArray) (some ⟨w2.heap.size, 0, none⟩) 2 2) ex9H) := Lib.hid (comp_is (l := [varT 3, varT 5]) (hr3.below hb4))
  have HB4 := Lib.hid (HB3.out.trans (hb4.mono HB3.out.size))
  clear hb4 ha3 hr3
  go_wp2_with fail
  refine (l9_v 3 _).mono ?_
  rintro e w5 ⟨rfl, hb5⟩
  have HB5 := Lib.hid (HB4.out.trans (hb5.mono HB4.out.size))
  have HI5 := Lib.hid (HI4.out.below hb5)
  clear hb5
  go_wp2_with fail
  have ha6 : Below w5.heap.size w5 (w5.alloc (.cells #[.int .i64 1, .int .i64 3, .string ⟨#[]⟩, .slice none 0 0] 30 (0, 0))) := (Below.refl _ _).alloc (Nat.le_refl _) _
  have hr6 : IsSl (w5.alloc (.cells #[.int .i64 1, .int .i64 3, .string ⟨#[]⟩, .slice none 0 0] 30 (0, 0))) AnyB (.slice (some ⟨w5.heap.size, 0, none⟩) 1 1) [varT 3] := row1 (x := varT 3) (var_is _ _ 3)
  have HB6 := Lib.hid (HB5.out.trans (ha6.mono HB5.out.size))
  have HI6 := Lib.hid (HI5.out.below ha6)
  generalize (w5.alloc (.cells #[.int .i64 1, .int .i64 3, .string ⟨#[]⟩, .slice none 0 0] 30 (0, 0))) = u6 at *
  refine (l9_f _ _ _ _ _).mono ?_
  rintro e w7 ⟨rfl, hb7⟩
  have HJ7 : Hid (IsTm w7 AnyB (compV (⟨#[113]⟩ : ByteArray) (some ⟨w5.heap.size, 0, none⟩) 1 1) ex9B) := Lib.hid (comp_is (l := [varT 3]) (hr6.below hb7))
  have HB7 := Lib.hid (HB6.out.trans (hb7.mono HB6.out.size))
  have HI7 := Lib.hid (HI6.out.below hb7)
  clear hb7 ha6 hr6
  go_wp2_with fail
  refine (ex9_go _ _ _ _ _ HI7.out HJ7.out).mono ?_
  rintro e w8 ⟨a8, c8, rfl, hi8, hb8⟩
  have HB8 := Lib.hid (HB7.out.trans (hb8.mono HB7.out.size))
  have HI8 := Lib.hid hi8
  clear hi8 hb8 HI7 HJ7 HI4 HI5 HI6 HB1 HB2 HB3 HB4 HB5 HB6 HB7
  go_wp2
  refine wp_region_rest (by kernel_rfl) ?_
  have hd0 : Below w8.heap.size w8 (w8.alloc (.cells #[.string (⟨#[112]⟩ : ByteArray), .int .i64 2, .int .i64 1, .int .i64 2, .slice a8 4 c8] 38 (0, 0))) := (Below.refl _ _).alloc (Nat.le_refl _) _
  have hz0 : (w8.alloc (.cells #[.string (⟨#[112]⟩ : ByteArray), .int .i64 2, .int .i64 1, .int .i64 2, .slice a8 4 c8] 38 (0, 0))).heap.size = w8.heap.size + 1 := by simp
  have hsl := ex9_sl (w8.alloc (.cells #[.string (⟨#[112]⟩ : ByteArray), .int .i64 2, .int .i64 1, .int .i64 2, .slice a8 4 c8] 38 (0, 0)))
  have hd1 := below_new (w8.alloc (.cells #[.string (⟨#[112]⟩ : ByteArray), .int .i64 2, .int .i64 1, .int .i64 2, .slice a8 4 c8] 38 (0, 0))) (.cells #[.int .i64 2, .int .i64 0, .int .i64 0, .string ⟨#[]⟩, .int .i64 1, .int .i64 0, .int .i64 0, .string ⟨#[]⟩, .int .i64 6, .int .i64 1, .int .i64 0, .string (⟨#[113]⟩ : ByteArray), .int .i64 3, .int .i64 0, .int .i64 0, .string ⟨#[]⟩] 54 (0, 0))
  have hr0 := heap_alloc_new w8 (.cells #[.string (⟨#[112]⟩ : ByteArray), .int .i64 2, .int .i64 1, .int .i64 2, .slice a8 4 c8] 38 (0, 0))
  generalize (w8.alloc (.cells #[.string (⟨#[112]⟩ : ByteArray), .int .i64 2, .int .i64 1, .int .i64 2, .slice a8 4 c8] 38 (0, 0))) = u0 at *
  have hz1 : (u0.alloc (.cells #[.int .i64 2, .int .i64 0, .int .i64 0, .string ⟨#[]⟩, .int .i64 1, .int .i64 0, .int .i64 0, .string ⟨#[]⟩, .int .i64 6, .int .i64 1, .int .i64 0, .string (⟨#[113]⟩ : ByteArray), .int .i64 3, .int .i64 0, .int .i64 0, .string ⟨#[]⟩] 54 (0, 0))).heap.size = u0.heap.size + 1 := by simp
  generalize (u0.alloc (.cells #[.int .i64 2, .int .i64 0, .int .i64 0, .string ⟨#[]⟩, .int .i64 1, .int .i64 0, .int .i64 0, .string ⟨#[]⟩, .int .i64 6, .int .i64 1, .int .i64 0, .string (⟨#[113]⟩ : ByteArray), .int .i64 3, .int .i64 0, .int .i64 0, .string ⟨#[]⟩] 54 (0, 0))) = u1 at *
  rw [hz0] at hsl
  have hr2 := heap_alloc_new u1 (.cells #[.string (⟨#[112]⟩ : ByteArray), .int .i64 2, .int .i64 1, .int .i64 2, .slice (some ⟨w8.heap.size + 1, 0, none⟩) 4 4] 25 (0, 0))
  have hd2 := (below_new u1 (.cells #[.string (⟨#[112]⟩ : ByteArray), .int .i64 2, .int .i64 1, .int .i64 2, .slice (some ⟨w8.heap.size + 1, 0, none⟩) 4 4] 25 (0, 0))).drew
  have hz2 : (u1.alloc (.cells #[.string (⟨#[112]⟩ : ByteArray), .int .i64 2, .int .i64 1, .int .i64 2, .slice (some ⟨w8.heap.size + 1, 0, none⟩) 4 4] 25 (0, 0))).drew.heap.size = u1.heap.size + 1 := by simp
  replace hr2 : (u1.alloc (.cells #[.string (⟨#[112]⟩ : ByteArray), .int .i64 2, .int .i64 1, .int .i64 2, .slice (some ⟨w8.heap.size + 1, 0, none⟩) 4 4] 25 (0, 0))).drew.heap[u1.heap.size]? = _ := hr2
  generalize (u1.alloc (.cells #[.string (⟨#[112]⟩ : ByteArray), .int .i64 2, .int .i64 1, .int .i64 2, .slice (some ⟨w8.heap.size + 1, 0, none⟩) 4 4] 25 (0, 0))).drew = W0 at *
  rw [show u1.heap.size = w8.heap.size + 1 + 1 by omega] at hr2
  have hd02 := hd0.trans ((hd1.trans (hd2.mono (by omega))).mono (by omega))
  obtain ⟨x0, x1, x2, x3, x4⟩ := row5 ((hd2.block w8.heap.size (by omega)).trans ((hd1.block w8.heap.size (by omega)).trans hr0))
  obtain ⟨y0, y1, y2, y3, y4⟩ := row5 hr2
  have HI := Lib.hid (HI8.out.below hd02)
  have HW := Lib.hid (hsl.below (hd2.mono (by omega)))
  have HB := Lib.hid (HB8.out.trans (hd02.mono HB8.out.size))
  clear hd0 hz0 hsl hd1 hr0 hz1 hr2 hd2 hz2 hd02 HI8 HB8
  refine rest_chain 0 9 [(false, [0, 1, 2, 3, 5]), (true, [4]), (true, [6]), (false, [7, 8])] [(false, [_, _, _, _, _]), (true, [_]), (true, [_]), (false, [_, _])] rfl (by kernel_rfl) (by kernel_rfl) rfl (by kernel_rfl) (by kernel_rfl) (.inl rfl) ?_
  refine chain_soft ?_
  intro E hE
  go_wp2
  clear x0 x1 x2 x3 x4 y0 y1 y2 y3 y4
  refine chain_one ?_
  intro E hE
  go_wp2_with (go_at_call 14
               refine (from_any ex9C _ _ HI.out (by decide)).mono ?_
               rintro e w9 ⟨v9, rfl, hi9, hb9⟩
               obtain ⟨a9, c9, rfl⟩ := hi9.form
               have HI9 : Hid (InsSl w9 (.slice a9 4 c9) ex9L) := Lib.hid hi9
               have HB9 := Lib.hid hb9
               clear hi9 hb9
               simp only [codVal, ex9C])
  refine ⟨HB9.out, ?_⟩
  refine chain_one ?_
  intro E hE
  go_wp2_with (go_at_call 13
               refine (Cod.ref_same ex9C _ _ _ HI9.out (HW.out.below HB9.out) (by decide)).mono ?_
               rintro e w10 ⟨rfl, hb10⟩
               have HB10 := Lib.hid hb10
               clear hb10)
  refine ⟨HB10.out, ?_⟩
  refine chain_soft ?_
  intro E hE
  go_wp2
  refine chain_nil (rest_end (by decide) ?_)
  go_wp2
  go_ret
  exact says rfl (HB.out.trans ((HB9.out.trans (HB10.out.mono HB9.out.size)).mono HB.out.size))
end Go.Proofs.Ytibjcfbilkkmkaa.Tms
