
/-
  Layer 1: num.Print, and the law's examples, walked over the program.
-/
import Derived.Test.YtdhljihikbofbaaDoorNuP
import Derived.Test.YtdhljihikbofbaaDoorShl
import Derived.Lib.AppendIntMem
namespace Go.Proofs.YtdhljihikbofbaaDoor.Num
open Go Go.RowKit Go.Proofs.YtdhljihikbofbaaDoor.Reg
set_option linter.unusedVariables false
set_option linter.unusedSimpArgs false

/-- the library's table of powers of ten stands in memory, and will -/
def Tab (w : World) : Prop := Lib.TabBelow Tryd.prog w.heap.size w "internal/strconv.uint64pow10" .u64 Lib.pow10Tab
theorem Tab.on {w w' : World} (h : Tab w) (hb : Below w.heap.size w w') : Tab w' := fun w2 hb2 => h w2 (hb.trans (hb2.mono hb.size))
theorem below_grow {w w' : World} (h : ∃ k os, w' = Sort.grow (w.drewN k) os) : Below w.heap.size w w' := by
  obtain ⟨k, os, rfl⟩ := h
  have h1 : Below w.heap.size w (w.drewN k) := draw_b (Below.refl _ _) k
  refine h1.trans ⟨rfl, rfl, rfl, by simp [Sort.grow], fun b hb => ?_⟩
  simp only [Sort.grow]
  rw [Array.getElem?_append_left (Nat.lt_of_lt_of_le hb h1.size)]
def IsPrint (l : List UInt8) (w : World) (e : Ending) (w' : World) : Prop := e = .returned (.string ⟨l.toArray⟩) ∧ Below w.heap.size w w'
theorem go_Print (n : Int) (hn : Fit n) (w : World) (ht : Tab w) : Calls Tryd.prog 13 #[.int .i64 n] w (IsPrint (Lib.itoa n) w) := by
  have HN := Lib.hid hn
  have HT := Lib.hid ht
  clear hn ht
  go_enter Tryd.func13, Tryd.ntmps13
  go_wp2_with (go_at_call 21; refine (Tryd.strconv_FormatInt_10 _ HN.out.1 HN.out.2 _ HT.out.here).mono ?_; rintro e1 w1 ⟨rfl, hg⟩; have HG := Lib.hid (below_grow hg); clear hg)
  go_ret
  exact ⟨rfl, HG.out⟩
theorem itoa_min : Lib.itoa (-9223372036854775808) = [45, 57, 50, 50, 51, 51, 55, 50, 48, 51, 54, 56, 53, 52, 55, 55, 53, 56, 48, 56] := by
  unfold Lib.itoa
  rw [if_pos (by decide)]
  simp [Lib.decDigits]
theorem wf_fit {a : Int} (h : (Lit.int .i64 a).wf = true) : Fit a := by
  have h2 : IntKind.i64.min ≤ a ∧ a ≤ IntKind.i64.max := by simpa only [Lit.wf, Bool.and_eq_true, decide_eq_true_eq] using h
  have e1 : IntKind.i64.min = -9223372036854775808 := by decide
  have e2 : IntKind.i64.max = 9223372036854775807 := by decide
  unfold Fit; rw [e1, e2] at h2; exact h2
def Says (b : Bool) (w : World) (e : Ending) (w' : World) : Prop := e = .returned (.bool b) ∧ Below w.heap.size w w'
theorem ex_quot : twoT ⟨#[47, 47]⟩ (-7) 2 = (-3, 0) := by kernel_rfl
theorem ex_div : twoT ⟨#[100, 105, 118]⟩ (-7) 2 = (-4, 0) := by kernel_rfl
theorem ex_mod : twoT ⟨#[109, 111, 100]⟩ (-7) 2 = (1, 0) := by kernel_rfl
theorem ex_rem : twoT ⟨#[114, 101, 109]⟩ (-7) 2 = (-1, 0) := by kernel_rfl
theorem ex_add : twoT ⟨#[43]⟩ 9223372036854775807 1 = (0, 11) := by kernel_rfl
theorem ex_parse : parseT (ByteArray.mk #[102, 102]).data.toList 16 = (255, 0) := by kernel_rfl
set_option maxRecDepth 100000 in
theorem go_alive (w : World) (ht : Tab w) : Calls Tryd.prog 10 #[] w (Says true w) := by
  have HT := Lib.hid ht
  have HB := Lib.hid (Below.refl w.heap.size w)
  clear ht
  go_enter Tryd.func10, Tryd.ntmps10
  go_wp2_with (first
    | (go_at_call 15
       refine (go_Two _ _ _ (by decide) (by decide) _).mono ?_
       rintro e1 w1 ⟨rfl, hb1⟩
       first | rw [ex_quot] | rw [ex_div] | rw [ex_mod] | rw [ex_rem] | rw [ex_add]
       have HB2 := Lib.hid (HB.out.trans (hb1.mono HB.out.size))
       clear HB hb1
       have HB := Lib.hid HB2.out
       clear HB2)
    | (go_at_call 11
       refine (go_Parse _ (by decide) _ (by decide) _).mono ?_
       rintro e1 w1 ⟨rfl, hb1⟩
       rw [ex_parse]
       have HB2 := Lib.hid (HB.out.trans (hb1.mono HB.out.size))
       clear HB hb1
       have HB := Lib.hid HB2.out
       clear HB2)
    | (go_at_call 13
       refine (go_Print _ (by decide) _ (HT.out.on HB.out)).mono ?_
       rintro e1 w1 ⟨rfl, hb1⟩
       rw [itoa_min]
       have HB2 := Lib.hid (HB.out.trans (hb1.mono HB.out.size))
       clear HB hb1
       have HB := Lib.hid HB2.out
       clear HB2))
  go_ret
  exact ⟨rfl, HB.out⟩
end Go.Proofs.YtdhljihikbofbaaDoor.Num
