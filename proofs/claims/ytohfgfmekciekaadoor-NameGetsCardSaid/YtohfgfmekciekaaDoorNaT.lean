
/-
  Layer 2: the law NameGets, walked over the program.
-/
import Derived.Test.YtohfgfmekciekaaDoorNaK
import Derived.Test.YtohfgfmekciekaaDoorNaS
namespace Go.Proofs.YtohfgfmekciekaaDoor.Nam
open Go Go.RowKit Go.Proofs.YtohfgfmekciekaaDoor.Reg Go.Proofs.YtohfgfmekciekaaDoor.Byt
set_option linter.unusedVariables false
set_option linter.unusedSimpArgs false

set_option maxRecDepth 100000 in
theorem law_gets (s : ByteArray) (z : Int) (hz0 : 0 ≤ z) (hz1 : z ≤ 255) (w : World) (ht : Tab w) : Calls Tryd.prog 4 #[.string s, .int .u8 z] w (Says true w) := by
  obtain ⟨c, rfl⟩ : ∃ c : UInt8, z = c.toNat := ⟨UInt8.ofNat z.toNat, by simp; omega⟩
  have HT := Lib.hid ht
  clear ht hz0 hz1
  by_cases hlen : 3000 < s.size
  · go_enter Tryd.func4, Tryd.ntmps4
    go_wp2_with (go_at_call 9; refine (go_alive _ HT.out).mono ?_; rintro e1 w1 ⟨rfl, hb1⟩; have BEL := Lib.hid hb1; clear hb1)
    go_ret
    exact ⟨rfl, BEL.out⟩
  · have hs3 : s.size ≤ 3000 := by omega
    have HS := Lib.hid (show s.size ≤ 100000 by omega)
    cases hg : getL c (s.size + 1) s.data.toList [] 0 with
    | none =>
      have HG := Lib.hid hg
      clear hlen hg
      go_enter Tryd.func4, Tryd.ntmps4
      go_wp2_with (first
        | (go_at_call 9
           refine (go_alive _ HT.out).mono ?_
           rintro e1 w1 ⟨rfl, hb1⟩
           have BEL := Lib.hid hb1
           clear hb1)
        | (go_at_call 16
           refine (go_Get _ _ HS.out _).mono ?_
           rintro e1 w1 ⟨-, h2, hb1⟩
           obtain rfl := h2 HG.out
           have BEL2 := Lib.hid (BEL.out.trans (hb1.mono BEL.out.size))
           clear BEL hb1 h2
           have BEL := Lib.hid BEL2.out
           clear BEL2)
        | (go_at_call 17
           refine (ref_Get _ _ HS.out _).mono ?_
           rintro e1 w1 ⟨-, h2, hb1⟩
           obtain rfl := h2 HG.out
           have BEL2 := Lib.hid (BEL.out.trans (hb1.mono BEL.out.size))
           clear BEL hb1 h2
           have BEL := Lib.hid BEL2.out
           clear BEL2))
      go_ret
      exact ⟨rfl, BEL.out⟩
    | some p =>
      obtain ⟨l, n⟩ := p
      have HG := Lib.hid hg
      clear hlen hg
      go_enter Tryd.func4, Tryd.ntmps4
      go_wp2_with (first
        | (go_at_call 9
           refine (go_alive _ HT.out).mono ?_
           rintro e1 w1 ⟨rfl, hb1⟩
           have BEL := Lib.hid hb1
           clear hb1)
        | (go_at_call 16
           refine (go_Get _ _ HS.out _).mono ?_
           rintro e1 w1 ⟨h1, -, hb1⟩
           obtain rfl := h1 _ _ HG.out
           have BEL2 := Lib.hid (BEL.out.trans (hb1.mono BEL.out.size))
           clear BEL hb1 h1
           have BEL := Lib.hid BEL2.out
           clear BEL2)
        | (go_at_call 17
           refine (ref_Get _ _ HS.out _).mono ?_
           rintro e1 w1 ⟨h1, -, hb1⟩
           obtain rfl := h1 _ _ HG.out
           have BEL2 := Lib.hid (BEL.out.trans (hb1.mono BEL.out.size))
           clear BEL hb1 h1
           have BEL := Lib.hid BEL2.out
           clear BEL2))
      go_ret
      exact ⟨rfl, BEL.out⟩
end Go.Proofs.YtohfgfmekciekaaDoor.Nam
