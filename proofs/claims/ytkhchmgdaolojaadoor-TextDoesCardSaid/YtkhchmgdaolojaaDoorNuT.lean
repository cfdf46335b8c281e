
/-
  Layer 1: num.Print by Go's library (its table is read), walked over the program.
-/
import Derived.Test.YtkhchmgdaolojaaDoorNuA
import Derived.Test.YtkhchmgdaolojaaDoorShl
import Derived.Lib.AppendIntMem
namespace Go.Proofs.YtkhchmgdaolojaaDoor.Num
open Go Go.RowKit Go.Proofs.YtkhchmgdaolojaaDoor.Reg
set_option linter.unusedVariables false
set_option linter.unusedSimpArgs false

/-- the library's table of powers of ten stands in memory, and will -/
def Tab (w : World) : Prop := Lib.TabBelow Tryd.prog w.heap.size w "internal/strconv.uint64pow10" .u64 Lib.pow10Tab
theorem Tab.on {w w' : World} (h : Tab w) (hb : Below w.heap.size w w') : Tab w' := fun w2 hb2 => h w2 (hb.trans (hb2.mono hb.size))
theorem below_grow {w w' : World} (h : ∃ k os, w' = Sort.grow (w.drewN k) os) : Below w.heap.size w w' := by
  obtain ⟨k, os, rfl⟩ := h
  have h1 : Below w.heap.size w (w.drewN k) := draw_b (Below.refl _ _) k
  refine h1.trans ⟨rfl, rfl, rfl, by simp [Sort.grow], fun b hb => ?_⟩
  simp only [Sort.grow]
  rw [Array.getElem?_append_left (Nat.lt_of_lt_of_le hb h1.size)]
def IsPrint (l : List UInt8) (w : World) (e : Ending) (w' : World) : Prop := e = .returned (.string ⟨l.toArray⟩) ∧ Below w.heap.size w w'
theorem go_Print (n : Int) (hn : Fit n) (w : World) (ht : Tab w) : Calls Tryd.prog 42 #[.int .i64 n] w (IsPrint (Lib.itoa n) w) := by
  have HN := Lib.hid hn
  have HT := Lib.hid ht
  clear hn ht
  go_enter Tryd.func42, Tryd.ntmps42
  go_wp2_with (go_at_call 63; refine (Tryd.strconv_FormatInt_10 _ HN.out.1 HN.out.2 _ HT.out.here).mono ?_; rintro e1 w1 ⟨rfl, hg⟩; have HG := Lib.hid (below_grow hg); clear hg)
  go_ret
  exact ⟨rfl, HG.out⟩
end Go.Proofs.YtkhchmgdaolojaaDoor.Num
