
/-
  TermNumbers, the plain law: numbered twice is numbered once; the numbers are 0, 1 and so on; size and depth stay.
-/
import Derived.Test.YtoklbeogmcdgaaaNup
import Derived.Test.YtoklbeogmcdgaaaGmy
import Derived.Test.YtoklbeogmcdgaaaOrd
namespace Go.Proofs.Ytoklbeogmcdgaaa.Tms
open Go Go.RowKit
set_option linter.unusedVariables false

mutual
theorem renT_size (φ : Int → Int) : ∀ t : Tm, (renT φ t).size = t.size
  | .mk k n s a => by simp only [renT, Tm.size, renL_size φ a]
theorem renL_size (φ : Int → Int) : ∀ l : List Tm, sizeL (renL φ l) = sizeL l
  | [] => by simp [renL, sizeL]
  | t :: l => by simp only [renL, sizeL, renT_size φ t, renL_size φ l]
end
mutual
theorem renT_deep (φ : Int → Int) : ∀ t : Tm, deepT (renT φ t) = deepT t
  | .mk k n s a => by simp only [renT, deepT, renL_deep φ a]
theorem renL_deep (φ : Int → Int) : ∀ l : List Tm, deepL (renL φ l) = deepL l
  | [] => by simp [renL, deepL]
  | t :: l => by simp only [renL, deepL, renT_deep φ t, renL_deep φ l]
end
mutual
theorem flatT_ren (φ : Int → Int) : ∀ t : Tm, flatT (renT φ t) = (flatT t).map fun p => (renT φ p.1, p.2)
  | .mk k n s a => by simp only [renT, flatT, List.map_cons, flatL_ren φ a]
theorem flatL_ren (φ : Int → Int) : ∀ l : List Tm, flatL (renL φ l) = (flatL l).map fun p => (renT φ p.1, p.2)
  | [] => by simp [renL, flatL]
  | t :: l => by simp only [renL, flatL, List.map_append, flatT_ren φ t, flatL_ren φ l]
end
mutual
theorem renT_fix (φ : Int → Int) : ∀ t : Tm, (∀ p ∈ flatT t, p.1.k = 1 → φ p.1.n = p.1.n) → renT φ t = t
  | .mk k n s a, h => by
    rw [renT, renL_fix φ a fun p hp => h p (by rw [flatT]; exact List.mem_cons_of_mem _ hp)]
    congr 1
    split
    · rename_i hk
      exact h (.mk k n s a, 0) (by rw [flatT]; exact List.mem_cons_self ..) hk
    · rfl
theorem renL_fix (φ : Int → Int) : ∀ l : List Tm, (∀ p ∈ flatL l, p.1.k = 1 → φ p.1.n = p.1.n) → renL φ l = l
  | [], _ => by simp [renL]
  | t :: l, h => by
    rw [renL, renT_fix φ t fun p hp => h p (by rw [flatL]; exact List.mem_append_left _ hp), renL_fix φ l fun p hp => h p (by rw [flatL]; exact List.mem_append_right _ hp)]
end
/-- 0, 1 and so on -/
def ints (k : Nat) : List Int := (List.range k).map Int.ofNat
theorem numT_size (t : Tm) : (numT t).size = t.size := renT_size _ t
end Go.Proofs.Ytoklbeogmcdgaaa.Tms
