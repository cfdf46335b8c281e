/-
  No cell of these rows narrows 'for every input' (looked for: loops, veiled, ifaces, maps, wideKeys, modest, calm, conditions, laid).
  DERIVED. THE GIVEN ROWS OF THIS SEAT. 4 by the template 'for every input the law returns true; each argument reads behind the call as it read before'; 0 by the template 'total and deterministic' (their statements: YtohfgfmekciekaaTotals.lean).
  GIVEN WITH THE SEED: the statements are not yours to turn. If you find one false, say at which input.
  Laid BY PROGRAM, IN A SANDBOX (cutbox-rows.mjs): the forced cells as the released guide's own fill.sh prints them over the translation 3db5520700ba6419… (all of the seat's roots in one cut). By AI agents, Wed Nov 11 2026. No macro, syntax, notation, axiom, sorry.
-/
import Derived.Test.YtohfgfmekciekaaChecked
import GoSem.Claim
import GoSem.ClaimJoined
import GoSem.ClaimMapViews
import Derived.JoinedTies
import Derived.KernelRfl
namespace Go.Proofs.Ytohfgfmekciekaa
/- THE CELL 'sum', in the pinned program and in every row, IS THE sha256 OF THE DUMP (.gsa) THAT YtohfgfmekciekaaProg.lean LOADS. Nothing in Lean hashes anything: it is a label: what it is worth is what the hold of that sum in a sandbox is worth. -/
noncomputable def Try.pinned : Pinned := { name := "ytohfgfmekciekaa", sum := "3db5520700ba6419ae20a3609ccf48d20a8785f8a0c1d08231cdd3833d556f38", checked := Try.checked }
namespace Rows
def none {H : Type} : Left H := { results := [], args := [] }

/-- 'prolixlaw12.ArithNests': WHATEVER THE INPUT: true; the input reads as it did. -/
def arithNestsSpec : ChangeSpec := { name := "arithNests", fn := fun _ => fun
  | [d1, d2, d3] => { results := [.lit (.bool true)], args := [d1, d2, d3] }
  | _ => none }
def arithNestsRow : OpenClaim := { program := "ytohfgfmekciekaa", sum := "3db5520700ba6419ae20a3609ccf48d20a8785f8a0c1d08231cdd3833d556f38", func := "prolix/prolixlaw12.ArithNests", spec := "arithNests", unfollowed := true, recurses := true, apart := false }
def ArithNestsSaid : Prop := arithNestsRow.holds Try.pinned (OpenSpec.ofChange arithNestsSpec)

/-- ITS FALSE NEIGHBOUR: 'it returns false'. Refute it at one input. -/
def arithNestsWrong : ChangeSpec := { name := "arithNests", fn := fun _ => fun
  | [d1, d2, d3] => { results := [.lit (.bool false)], args := [d1, d2, d3] }
  | _ => none }
def ArithNestsWrongFalsely : Prop := arithNestsRow.holds Try.pinned (OpenSpec.ofChange arithNestsWrong)

/-- 'prolixlaw12.ArithParts': WHATEVER THE INPUT: true; the input reads as it did. -/
def arithPartsSpec : ChangeSpec := { name := "arithParts", fn := fun _ => fun
  | [d1, d2] => { results := [.lit (.bool true)], args := [d1, d2] }
  | _ => none }
def arithPartsRow : OpenClaim := { program := "ytohfgfmekciekaa", sum := "3db5520700ba6419ae20a3609ccf48d20a8785f8a0c1d08231cdd3833d556f38", func := "prolix/prolixlaw12.ArithParts", spec := "arithParts", unfollowed := true, recurses := true, apart := false }
def ArithPartsSaid : Prop := arithPartsRow.holds Try.pinned (OpenSpec.ofChange arithPartsSpec)

/-- ITS FALSE NEIGHBOUR: 'it returns false'. Refute it at one input. -/
def arithPartsWrong : ChangeSpec := { name := "arithParts", fn := fun _ => fun
  | [d1, d2] => { results := [.lit (.bool false)], args := [d1, d2] }
  | _ => none }
def ArithPartsWrongFalsely : Prop := arithPartsRow.holds Try.pinned (OpenSpec.ofChange arithPartsWrong)

/-- 'prolixlaw12.ArithEvals': WHATEVER THE INPUT: true; the input reads as it did. -/
def arithEvalsSpec : ChangeSpec := { name := "arithEvals", fn := fun _ => fun
  | [d1, d2, d3] => { results := [.lit (.bool true)], args := [d1, d2, d3] }
  | _ => none }
def arithEvalsRow : OpenClaim := { program := "ytohfgfmekciekaa", sum := "3db5520700ba6419ae20a3609ccf48d20a8785f8a0c1d08231cdd3833d556f38", func := "prolix/prolixlaw12.ArithEvals", spec := "arithEvals", unfollowed := true, recurses := true, apart := false }
def ArithEvalsSaid : Prop := arithEvalsRow.holds Try.pinned (OpenSpec.ofChange arithEvalsSpec)

/-- ITS FALSE NEIGHBOUR: 'it returns false'. Refute it at one input. -/
def arithEvalsWrong : ChangeSpec := { name := "arithEvals", fn := fun _ => fun
  | [d1, d2, d3] => { results := [.lit (.bool false)], args := [d1, d2, d3] }
  | _ => none }
def ArithEvalsWrongFalsely : Prop := arithEvalsRow.holds Try.pinned (OpenSpec.ofChange arithEvalsWrong)

/-- 'prolixlaw12.ArithTells': WHATEVER THE INPUT: true; the input reads as it did. -/
def arithTellsSpec : ChangeSpec := { name := "arithTells", fn := fun _ => fun
  | [d1, d2] => { results := [.lit (.bool true)], args := [d1, d2] }
  | _ => none }
def arithTellsRow : OpenClaim := { program := "ytohfgfmekciekaa", sum := "3db5520700ba6419ae20a3609ccf48d20a8785f8a0c1d08231cdd3833d556f38", func := "prolix/prolixlaw12.ArithTells", spec := "arithTells", unfollowed := true, recurses := true, apart := false }
def ArithTellsSaid : Prop := arithTellsRow.holds Try.pinned (OpenSpec.ofChange arithTellsSpec)

/-- ITS FALSE NEIGHBOUR: 'it returns false'. Refute it at one input. -/
def arithTellsWrong : ChangeSpec := { name := "arithTells", fn := fun _ => fun
  | [d1, d2] => { results := [.lit (.bool false)], args := [d1, d2] }
  | _ => none }
def ArithTellsWrongFalsely : Prop := arithTellsRow.holds Try.pinned (OpenSpec.ofChange arithTellsWrong)

/- THE SECOND FORM. 'bulk': how many values and letters a reading holds, each counted each time it is reached (what is shared counts as often as it is met; a slice's spare places count too). A statement '..UptoSaid' is the law's where the arguments, and the package variables that the reading takes, are together of bulk at most 1048576: NARROWER than '..Said'. Prove '..Said' where nothing that the law and all that it calls make is longer than what came in: it says more and counts as full. Else prove '..UptoSaid'. A law counts once. -/
mutual
def uptoBulk {H : Type} : DataW H → Nat
  | .lit (.string bytes) => bytes.length + 1
  | .lit _ => 1
  | .nil => 1
  | .ptr d => uptoBulk d + 1
  | .slice elems spare => uptoBulkAll elems + uptoBulkAll spare + 1
  | .agg parts => uptoBulkAll parts + 1
  | .iface _ d => uptoBulk d + 1
  | .map entries => uptoBulkEntries entries + 1
  | .held _ => 1
def uptoBulkAll {H : Type} : List (DataW H) → Nat
  | [] => 0
  | d :: r => uptoBulk d + uptoBulkAll r
def uptoBulkEntries {H : Type} : List (Lit × DataW H) → Nat
  | [] => 0
  | x :: r => uptoBulkEntry x + uptoBulkEntries r
def uptoBulkEntry {H : Type} : Lit × DataW H → Nat
  | (.string bytes, d) => bytes.length + uptoBulk d + 1
  | (_, d) => uptoBulk d + 1
 end
def uptoSmall : (H : Type) → List (DataW H) → Bool := fun _ ds => decide (uptoBulkAll ds ≤ 1048576)
def OpenSpec.upto (s : _root_.Go.ChangeSpec) : _root_.Go.OpenSpec := { _root_.Go.OpenSpec.ofChange s with cond := some uptoSmall }

/-- 'prolixlaw12.ArithNests', WHERE WHAT IT READS IS OF BULK AT MOST 1048576: true; the input reads as it did. -/
def arithNestsUptoRow : OpenClaim := { program := "ytohfgfmekciekaa", sum := "3db5520700ba6419ae20a3609ccf48d20a8785f8a0c1d08231cdd3833d556f38", func := "prolix/prolixlaw12.ArithNests", spec := "arithNests", unfollowed := true, recurses := true, apart := false, narrowed := true }
def ArithNestsUptoSaid : Prop := arithNestsUptoRow.holds Try.pinned (OpenSpec.upto arithNestsSpec)

/-- 'prolixlaw12.ArithParts', WHERE WHAT IT READS IS OF BULK AT MOST 1048576: true; the input reads as it did. -/
def arithPartsUptoRow : OpenClaim := { program := "ytohfgfmekciekaa", sum := "3db5520700ba6419ae20a3609ccf48d20a8785f8a0c1d08231cdd3833d556f38", func := "prolix/prolixlaw12.ArithParts", spec := "arithParts", unfollowed := true, recurses := true, apart := false, narrowed := true }
def ArithPartsUptoSaid : Prop := arithPartsUptoRow.holds Try.pinned (OpenSpec.upto arithPartsSpec)

/-- 'prolixlaw12.ArithEvals', WHERE WHAT IT READS IS OF BULK AT MOST 1048576: true; the input reads as it did. -/
def arithEvalsUptoRow : OpenClaim := { program := "ytohfgfmekciekaa", sum := "3db5520700ba6419ae20a3609ccf48d20a8785f8a0c1d08231cdd3833d556f38", func := "prolix/prolixlaw12.ArithEvals", spec := "arithEvals", unfollowed := true, recurses := true, apart := false, narrowed := true }
def ArithEvalsUptoSaid : Prop := arithEvalsUptoRow.holds Try.pinned (OpenSpec.upto arithEvalsSpec)

/-- 'prolixlaw12.ArithTells', WHERE WHAT IT READS IS OF BULK AT MOST 1048576: true; the input reads as it did. -/
def arithTellsUptoRow : OpenClaim := { program := "ytohfgfmekciekaa", sum := "3db5520700ba6419ae20a3609ccf48d20a8785f8a0c1d08231cdd3833d556f38", func := "prolix/prolixlaw12.ArithTells", spec := "arithTells", unfollowed := true, recurses := true, apart := false, narrowed := true }
def ArithTellsUptoSaid : Prop := arithTellsUptoRow.holds Try.pinned (OpenSpec.upto arithTellsSpec)

end Rows
end Go.Proofs.Ytohfgfmekciekaa
