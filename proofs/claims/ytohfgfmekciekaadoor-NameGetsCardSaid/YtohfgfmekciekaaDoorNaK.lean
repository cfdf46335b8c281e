
/-
  Layer 2: the laws' examples, and the law NamePuts, walked over the program.
-/
import Derived.Test.YtohfgfmekciekaaDoorNaJ
namespace Go.Proofs.YtohfgfmekciekaaDoor.Nam
open Go Go.RowKit Go.Proofs.YtohfgfmekciekaaDoor.Reg Go.Proofs.YtohfgfmekciekaaDoor.Byt
set_option linter.unusedVariables false
set_option linter.unusedSimpArgs false

def Says (b : Bool) (w : World) (e : Ending) (w' : World) : Prop := e = .returned (.bool b) ∧ Below w.heap.size w w'
theorem ex_foo : putL (ByteArray.mk #[102, 111, 111]).data.toList = [102, 111, 111] := by decide +kernel
theorem ex_Foo : putL (ByteArray.mk #[70, 111, 111]).data.toList = [39, 70, 111, 111, 39] := by decide +kernel
theorem ex_nil : putL (ByteArray.mk #[91, 93]).data.toList = [91, 93] := by decide +kernel
theorem ex_its : putL (ByteArray.mk #[105, 116, 39, 115]).data.toList = [39, 105, 116, 92, 39, 115, 39] := by decide +kernel
theorem ex_get : getL 39 ((ByteArray.mk #[97, 39, 39, 98, 39, 32, 99]).size + 1) (ByteArray.mk #[97, 39, 39, 98, 39, 32, 99]).data.toList [] 0 = some ([97, 39, 98], 5) := by decide +kernel
set_option maxRecDepth 100000 in
theorem go_alive (w : World) (ht : Tab w) : Calls Tryd.prog 9 #[] w (Says true w) := by
  have HT := Lib.hid ht
  have HB := Lib.hid (Below.refl w.heap.size w)
  clear ht
  go_enter Tryd.func9, Tryd.ntmps9
  go_wp2_with (first
    | (go_at_call 16
       refine (go_Get _ 39 (by decide) _).mono ?_
       rintro e1 w1 ⟨h1, -, hb1⟩
       obtain rfl := h1 _ _ ex_get
       have HB2 := Lib.hid (HB.out.trans (hb1.mono HB.out.size))
       clear HB hb1 h1
       have HB := Lib.hid HB2.out
       clear HB2)
    | (go_at_call 14
       refine (go_Put _ (by decide) _ (HT.out.on HB.out)).mono ?_
       rintro e1 w1 ⟨rfl, hb1⟩
       first | rw [ex_foo] | rw [ex_Foo] | rw [ex_nil] | rw [ex_its]
       have HB2 := Lib.hid (HB.out.trans (hb1.mono HB.out.size))
       clear HB hb1
       have HB := Lib.hid HB2.out
       clear HB2))
  go_ret
  exact ⟨rfl, HB.out⟩
set_option maxRecDepth 100000 in
theorem law_puts (s : ByteArray) (z : Int) (hz0 : 0 ≤ z) (hz1 : z ≤ 255) (w : World) (ht : Tab w) : Calls Tryd.prog 3 #[.string s, .int .u8 z] w (Says true w) := by
  obtain ⟨c, rfl⟩ : ∃ c : UInt8, z = c.toNat := ⟨UInt8.ofNat z.toNat, by simp; omega⟩
  have HT := Lib.hid ht
  clear ht hz0 hz1
  by_cases hlen : 3000 < s.size
  · go_enter Tryd.func3, Tryd.ntmps3
    go_wp2_with (go_at_call 9; refine (go_alive _ HT.out).mono ?_; rintro e1 w1 ⟨rfl, hb1⟩; have BEL := Lib.hid hb1; clear hb1)
    go_ret
    exact ⟨rfl, BEL.out⟩
  · have hs : s.size ≤ 3000 := by omega
    have HS := Lib.hid (show s.size ≤ maxLen by unfold maxLen; omega)
    have HS2 := Lib.hid (show s.size ≤ 100000 by omega)
    obtain ⟨pl, hpl⟩ : ∃ pl, pl = plainB s.data.toList := ⟨_, rfl⟩
    have HPL := Lib.hid hpl
    obtain ⟨pu, hpu⟩ : ∃ pu, pu = putL s.data.toList := ⟨_, rfl⟩
    have HPU := Lib.hid hpu
    clear hlen hpl hpu
    go_enter Tryd.func3, Tryd.ntmps3
    go_wp2_with (first
      | (go_at_call 9
         refine (go_alive _ HT.out).mono ?_
         rintro e1 w1 ⟨rfl, hb1⟩
         have BEL := Lib.hid hb1
         clear hb1)
      | (go_at_call 10; refine (go_Sort _ _).mono ?_; rintro e1 w1 ⟨rfl, rfl⟩)
      | (go_at_call 11; refine (ref_Sort _ _).mono ?_; rintro e1 w1 ⟨rfl, rfl⟩)
      | (go_at_call 12
         refine (go_Plain s HS.out _).mono ?_
         rintro e1 w1 ⟨rfl, hb1⟩
         rw [← HPL.out]
         have BEL2 := Lib.hid (BEL.out.trans (hb1.mono BEL.out.size))
         clear BEL hb1
         have BEL := Lib.hid BEL2.out
         clear BEL2)
      | (go_at_call 13
         refine (ref_Plain s HS.out _).mono ?_
         rintro e1 w1 ⟨rfl, rfl⟩
         rw [← HPL.out])
      | (go_at_call 14
         refine (go_Put s HS2.out _ (HT.out.on BEL.out)).mono ?_
         rintro e1 w1 ⟨rfl, hb1⟩
         rw [← HPU.out]
         have BEL2 := Lib.hid (BEL.out.trans (hb1.mono BEL.out.size))
         clear BEL hb1
         have BEL := Lib.hid BEL2.out
         clear BEL2)
      | (go_at_call 15
         refine (ref_Put s HS2.out _).mono ?_
         rintro e1 w1 ⟨rfl, hb1⟩
         rw [← HPU.out]
         have BEL2 := Lib.hid (BEL.out.trans (hb1.mono BEL.out.size))
         clear BEL hb1
         have BEL := Lib.hid BEL2.out
         clear BEL2))
    go_ret
    exact ⟨rfl, BEL.out⟩
end Go.Proofs.YtohfgfmekciekaaDoor.Nam
