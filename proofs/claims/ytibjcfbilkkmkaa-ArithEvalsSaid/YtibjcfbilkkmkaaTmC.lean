
/-
  term.compare of the program (two parts, but for their Args), walked; cmp.Compare of numbers.
-/
import Derived.Test.YtibjcfbilkkmkaaShl
import Derived.Test.YtibjcfbilkkmkaaSame
import Derived.Lib.Bytealg
namespace Go.Proofs.Ytibjcfbilkkmkaa.Tms
open Go Go.RowKit

def cmpI (a b : Int) : Int := if a < b then -1 else if b < a then 1 else 0

/-- two parts, but for their Args -/
def cmpHead (a b : Tm) : Int :=
  if cmpI a.k b.k ≠ 0 then cmpI a.k b.k else if cmpI a.args.length b.args.length ≠ 0 then cmpI a.args.length b.args.length else if cmpI a.n b.n ≠ 0 then cmpI a.n b.n else Lib.compareBytes a.s.data.toList b.s.data.toList

end Go.Proofs.Ytibjcfbilkkmkaa.Tms
