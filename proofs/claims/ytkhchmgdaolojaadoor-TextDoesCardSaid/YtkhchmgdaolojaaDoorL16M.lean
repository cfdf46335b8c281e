
/-
  The statements of layer 16: TextNumbers, walked over the program.
  The statements of layer 16: TextNumbers holds, of whatever number and byte.
-/
import Derived.Test.YtkhchmgdaolojaaDoorTxq
import Derived.Test.YtkhchmgdaolojaaDoorSame
namespace Go.Proofs.YtkhchmgdaolojaaDoor.Tms
open Go Go.RowKit Go.Proofs.YtkhchmgdaolojaaDoor.Reg Go.Proofs.YtkhchmgdaolojaaDoor.Rws Go.Proofs.YtkhchmgdaolojaaDoor.Maps Go.Instr
set_option linter.unusedVariables false
set_option linter.unusedSimpArgs false

end Go.Proofs.YtkhchmgdaolojaaDoor.Tms
namespace Go.Proofs.YtkhchmgdaolojaaDoor.Tms
open Go Go.RowKit Go.Proofs.YtkhchmgdaolojaaDoor.Reg Go.Proofs.YtkhchmgdaolojaaDoor.Rws
set_option linter.unusedVariables false
set_option linter.unusedSimpArgs false

theorem int_may16 (m : Int) : mayT (intT m) = true := by simp [intT, mayT, mayB, mayTL]
theorem one_may16 (c : UInt8) : mayT (atomT ⟨#[c]⟩) = true := by simp [atomT, mayT, mayB, mayTL, ByteArray.size]
theorem nil_may16 : mayT nilT = true := by decide +kernel
theorem may_list16 (e : Tm) (he : mayT e = true) : ∀ ts : List Tm, (∀ t ∈ ts, mayT t = true) → mayT (listT ts e) = true
  | [], _ => he
  | t :: l, h => by
    have h1 := may_list16 e he l fun u hu => h u (by simp [hu])
    have h2 := h t (by simp)
    unfold listT compT
    simp only [mayT, mayTL, h1, h2, Bool.and_true, Bool.and_self]
    show mayB 4 0 dotS 2 = true
    decide
theorem char_may16 (codes : Bool) (c : UInt8) : mayT (charT codes c) = true := by
  cases codes
  · exact one_may16 c
  · exact int_may16 _
theorem char_size16 (codes : Bool) (c : UInt8) : (charT codes c).size = 1 := by cases codes <;> simp [charT, intT, atomT, Tm.size, sizeL]
theorem chars_size16 (codes : Bool) (l : List UInt8) : sizeL (charsT codes l) = l.length := by
  induction l with
  | nil => rfl
  | cons c l ih => show (charT codes c).size + sizeL (charsT codes l) = _; rw [char_size16, ih, List.length_cons]; omega
theorem text_size16 (codes : Bool) (l : List UInt8) : (listT (charsT codes l) nilT).size = 2 * l.length + 1 := by
  rw [listT_size, chars_size16, show nilT.size = 1 from rfl]; unfold charsT; rw [List.length_map]; omega
theorem text_may16 (codes : Bool) (l : List UInt8) : mayT (listT (charsT codes l) nilT) = true := may_list16 _ nil_may16 _ fun t ht => by
  unfold charsT at ht
  obtain ⟨c, -, rfl⟩ := List.mem_map.1 ht
  exact char_may16 codes c
end Go.Proofs.YtkhchmgdaolojaaDoor.Tms
