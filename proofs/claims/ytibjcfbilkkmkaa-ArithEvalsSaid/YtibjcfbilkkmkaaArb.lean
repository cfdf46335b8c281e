
/-
  Layer 12: what numbers are compared by, which operators are known, an indicator, walked over the program (printed by gen_arb.py).
-/
import Derived.Test.YtibjcfbilkkmkaaAra
import Derived.Test.YtibjcfbilkkmkaaFlt
namespace Go.Proofs.Ytibjcfbilkkmkaa.Tms
open Go Go.RowKit Go.Proofs.Ytibjcfbilkkmkaa.Reg Go.Proofs.Ytibjcfbilkkmkaa.Maps Go.Proofs.Ytibjcfbilkkmkaa.Num
set_option linter.unusedVariables false
set_option linter.unusedSimpArgs false

/-- does a comparison hold? none: there is no such one -/
def holdB (op : ByteArray) (a b : Int) : Option Bool :=
  if op = ⟨#[61, 58, 61]⟩ then some (decide (a = b)) else
  if op = ⟨#[61, 92, 61]⟩ then some (decide (a ≠ b)) else
  if op = ⟨#[60]⟩ then some (decide (a < b)) else
  if op = ⟨#[62]⟩ then some (decide (b < a)) else
  if op = ⟨#[61, 60]⟩ then some (decide (a ≤ b)) else
  if op = ⟨#[62, 61]⟩ then some (decide (b ≤ a)) else
  none
theorem num_same (a b : Int) (w : World) : Calls Try.prog 62 #[.int .i64 a, .int .i64 b] w (Says (decide (a = b)) w) := by
  go_enter Try.func62, Try.ntmps62
  go_wp2
  go_ret
  exact says (by first | rfl | (simp [bne]; rfl) | simp [bne]) (Below.refl _ _)
theorem num_unlike (a b : Int) (w : World) : Calls Try.prog 63 #[.int .i64 a, .int .i64 b] w (Says (decide (a ≠ b)) w) := by
  go_enter Try.func63, Try.ntmps63
  go_wp2
  go_ret
  exact says (by first | rfl | (simp [bne]; rfl) | simp [bne]) (Below.refl _ _)
theorem num_below (a b : Int) (w : World) : Calls Try.prog 64 #[.int .i64 a, .int .i64 b] w (Says (decide (a < b)) w) := by
  go_enter Try.func64, Try.ntmps64
  go_wp2
  go_ret
  exact says (by first | rfl | (simp [bne]; rfl) | simp [bne]) (Below.refl _ _)
theorem num_above (a b : Int) (w : World) : Calls Try.prog 65 #[.int .i64 a, .int .i64 b] w (Says (decide (b < a)) w) := by
  go_enter Try.func65, Try.ntmps65
  go_wp2
  go_ret
  exact says (by first | rfl | (simp [bne]; rfl) | simp [bne]) (Below.refl _ _)
theorem num_atMost (a b : Int) (w : World) : Calls Try.prog 66 #[.int .i64 a, .int .i64 b] w (Says (decide (a ≤ b)) w) := by
  go_enter Try.func66, Try.ntmps66
  go_wp2
  go_ret
  exact says (by first | rfl | (simp [bne]; rfl) | simp [bne]) (Below.refl _ _)
theorem num_atLeast (a b : Int) (w : World) : Calls Try.prog 67 #[.int .i64 a, .int .i64 b] w (Says (decide (b ≤ a)) w) := by
  go_enter Try.func67, Try.ntmps67
  go_wp2
  go_ret
  exact says (by first | rfl | (simp [bne]; rfl) | simp [bne]) (Below.refl _ _)
def cmpEntries : Array MapEntry := #[⟨.string ⟨#[61, 58, 61]⟩, .func (.func 62) #[] #[], 0⟩, ⟨.string ⟨#[61, 92, 61]⟩, .func (.func 63) #[] #[], 1⟩, ⟨.string ⟨#[60]⟩, .func (.func 64) #[] #[], 2⟩, ⟨.string ⟨#[62]⟩, .func (.func 65) #[] #[], 3⟩, ⟨.string ⟨#[61, 60]⟩, .func (.func 66) #[] #[], 4⟩, ⟨.string ⟨#[62, 61]⟩, .func (.func 67) #[] #[], 5⟩]
set_option maxRecDepth 100000 in
theorem go_comparisons (w : World) : Calls Try.prog 44 #[] w (fun e w' => ∃ b, e = .returned (.map (some b)) ∧ w'.heap[b]? = some (.map cmpEntries 6) ∧ Below w.heap.size w w') := by
  go_enter Try.func44, Try.ntmps44
  go_wp2_with (first
    | (refine wpList_map_start rfl 91 rfl w (Below.refl _ _) ?_
       intro b w1 h1
       have HF := Lib.hid h1
       clear h1)
    | (refine wpList_map_fill rfl 91 (.tmp 1) _ _ rfl _ _ _ Try.underlying91 Try.underlying9 rfl w _ _ _ rfl HF.out (by kernel_rfl) ?_
       intro w1 h1
       replace HF := Lib.hid h1
       clear h1))
  go_ret
  exact ⟨b, rfl, HF.out.at_, HF.out.bel⟩
theorem cmp_zero (w : World) : (zeroValue 89).run Try.prog w = .ok .nilFunc w := by kernel_rfl
set_option maxRecDepth 100000 in
theorem go_known (s : ByteArray) (n : Nat) (w : World) : Calls Try.prog 55 #[.string s, .int .i64 n] w (Says (knB s n) w) := by
  by_cases h1 : n = 1
  · subst h1
    have hk := Lib.hid (kn_one s 0 fit_0)
    go_enter Try.func55, Try.ntmps55
    go_wp2_with (go_at_call 57; refine (go_One s 0 fit_0 _).mono ?_; rintro e1 w1 ⟨rfl, hb1⟩; have HB := Lib.hid hb1; clear hb1)
    go_ret
    exact says (by rw [← hk.out]; first | rfl | (simp [bne]; rfl)) HB.out
  have p1 : ((n : Int) == 1) = false := by simp; omega
  by_cases h2 : n = 2
  · subst h2
    have hk := Lib.hid (kn_two s 1 1 (by decide) (by decide))
    clear p1
    go_enter Try.func55, Try.ntmps55
    go_wp2_with (go_at_call 58; refine (go_Two s 1 1 (by decide) (by decide) _).mono ?_; rintro e1 w1 ⟨rfl, hb1⟩; have HB := Lib.hid hb1; clear hb1)
    go_ret
    exact says (by rw [← hk.out]; first | rfl | (simp [bne]; rfl)) HB.out
  have p2 : ((n : Int) == 2) = false := by simp; omega
  have hk : Hid (knB s n = false) := Lib.hid (by unfold knB; simp [h1, h2])
  clear h1 h2
  go_enter Try.func55, Try.ntmps55
  go_wp2
  go_ret
  exact says hk.out.symm (Below.refl _ _)
theorem go_ind (s : ByteArray) (n : Int) (w : World) : Calls Try.prog 56 #[.string s, .int .i64 n] w (MakesTm (fun _ => False) (indT s n) w) := by
  go_enter Try.func56, Try.ntmps56
  go_wp2
  have hz := (heap_alloc_old (w.alloc (.cells #[.int .i64 4, .int .i64 0, .string slash, .slice (some ⟨w.heap.size + 1, 0, none⟩) 2 2] 30 (0, 0))) (.cells #[.int .i64 3, .int .i64 0, .string s, .slice none 0 0, .int .i64 2, .int .i64 n, .string ⟨#[]⟩, .slice none 0 0] 30 (0, 0)) (r := w.heap.size) (by simp)).trans (heap_alloc_new w _)
  have hc : ((w.alloc (.cells #[.int .i64 4, .int .i64 0, .string slash, .slice (some ⟨w.heap.size + 1, 0, none⟩) 2 2] 30 (0, 0))).alloc (.cells #[.int .i64 3, .int .i64 0, .string s, .slice none 0 0, .int .i64 2, .int .i64 n, .string ⟨#[]⟩, .slice none 0 0] 30 (0, 0))).heap[w.heap.size + 1]? = some (.cells #[.int .i64 3, .int .i64 0, .string s, .slice none 0 0, .int .i64 2, .int .i64 n, .string ⟨#[]⟩, .slice none 0 0] 30 (0, 0)) := by
    have h := heap_alloc_new (w.alloc (.cells #[.int .i64 4, .int .i64 0, .string slash, .slice (some ⟨w.heap.size + 1, 0, none⟩) 2 2] 30 (0, 0))) (.cells #[.int .i64 3, .int .i64 0, .string s, .slice none 0 0, .int .i64 2, .int .i64 n, .string ⟨#[]⟩, .slice none 0 0] 30 (0, 0))
    rwa [show (w.alloc (.cells #[.int .i64 4, .int .i64 0, .string slash, .slice (some ⟨w.heap.size + 1, 0, none⟩) 2 2] 30 (0, 0))).heap.size = w.heap.size + 1 by simp] at h
  refine bodyPost_ret (v := compV slash (some ⟨w.heap.size + 1, 0, none⟩) 2 2) (results_cell_row Try.results56 _ _ w.heap.size _ _ _ _ rfl hz Try.underlying30 rfl (by kernel_rfl)) rfl ⟨_, rfl, comp_is (l := [atomT s, intT n]) (pair_sl (t1 := atomT s) (t2 := intT n) (.inr (Nat.le_succ _)) hc (IsSl.nil _ _ none 0) (IsSl.nil _ _ none 0)), ((Below.refl _ _).alloc (Nat.le_refl _) _).alloc (by simp) _⟩

end Go.Proofs.Ytibjcfbilkkmkaa.Tms
