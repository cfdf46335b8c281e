/-
  No cell of these rows narrows 'for every input' (looked for: loops, veiled, ifaces, maps, wideKeys, modest, calm, conditions, laid).
  DERIVED. THE GIVEN ROWS OF THIS SEAT. 4 by the template 'for every input the law returns true; each argument reads behind the call as it read before'; 0 by the template 'total and deterministic' (their statements: YtibjcfbilkkmkaaTotals.lean).
  GIVEN WITH THE SEED: the statements are not yours to turn. If you find one false, say at which input.
  Laid BY PROGRAM, IN A SANDBOX (cutbox-rows.mjs): the forced cells as the released guide's own fill.sh prints them over the translation c1b3537d27eb8e02… (all of the seat's roots in one cut). By AI agents, Wed Nov 11 2026. No macro, syntax, notation, axiom, sorry.
-/
import Derived.Test.YtibjcfbilkkmkaaChecked
import GoSem.Claim
import GoSem.ClaimJoined
import GoSem.ClaimMapViews
import Derived.JoinedTies
import Derived.KernelRfl
namespace Go.Proofs.Ytibjcfbilkkmkaa
/- THE CELL 'sum', in the pinned program and in every row, IS THE sha256 OF THE DUMP (.gsa) THAT YtibjcfbilkkmkaaProg.lean LOADS. Nothing in Lean hashes anything: it is a label: what it is worth is what the hold of that sum in a sandbox is worth. -/
noncomputable def Try.pinned : Pinned := { name := "ytibjcfbilkkmkaa", sum := "c1b3537d27eb8e02359a7170d485cf94ba41b798f17b597565bceb9db7dff522", checked := Try.checked }
namespace Rows
def none {H : Type} : Left H := { results := [], args := [] }

/-- 'prolixlaw19.CompCompiles': WHATEVER THE INPUT: true; the input reads as it did. -/
def compCompilesSpec : ChangeSpec := { name := "compCompiles", fn := fun _ => fun
  | [d1, d2, d3] => { results := [.lit (.bool true)], args := [d1, d2, d3] }
  | _ => none }
def compCompilesRow : OpenClaim := { program := "ytibjcfbilkkmkaa", sum := "c1b3537d27eb8e02359a7170d485cf94ba41b798f17b597565bceb9db7dff522", func := "prolix/prolixlaw19.CompCompiles", spec := "compCompiles", unfollowed := true, recurses := true, apart := false }
def CompCompilesSaid : Prop := compCompilesRow.holds Try.pinned (OpenSpec.ofChange compCompilesSpec)

/-- ITS FALSE NEIGHBOUR: 'it returns false'. Refute it at one input. -/
def compCompilesWrong : ChangeSpec := { name := "compCompiles", fn := fun _ => fun
  | [d1, d2, d3] => { results := [.lit (.bool false)], args := [d1, d2, d3] }
  | _ => none }
def CompCompilesWrongFalsely : Prop := compCompilesRow.holds Try.pinned (OpenSpec.ofChange compCompilesWrong)

/-- 'prolixlaw19.CompCodes': WHATEVER THE INPUT: true; the input reads as it did. -/
def compCodesSpec : ChangeSpec := { name := "compCodes", fn := fun _ => fun
  | [d] => { results := [.lit (.bool true)], args := [d] }
  | _ => none }
def compCodesRow : OpenClaim := { program := "ytibjcfbilkkmkaa", sum := "c1b3537d27eb8e02359a7170d485cf94ba41b798f17b597565bceb9db7dff522", func := "prolix/prolixlaw19.CompCodes", spec := "compCodes", unfollowed := true, recurses := true, apart := false }
def CompCodesSaid : Prop := compCodesRow.holds Try.pinned (OpenSpec.ofChange compCodesSpec)

/-- ITS FALSE NEIGHBOUR: 'it returns false'. Refute it at one input. -/
def compCodesWrong : ChangeSpec := { name := "compCodes", fn := fun _ => fun
  | [d] => { results := [.lit (.bool false)], args := [d] }
  | _ => none }
def CompCodesWrongFalsely : Prop := compCodesRow.holds Try.pinned (OpenSpec.ofChange compCodesWrong)

/-- 'prolixlaw12.ArithEvals': WHATEVER THE INPUT: true; the input reads as it did. -/
def arithEvalsSpec : ChangeSpec := { name := "arithEvals", fn := fun _ => fun
  | [d1, d2, d3] => { results := [.lit (.bool true)], args := [d1, d2, d3] }
  | _ => none }
def arithEvalsRow : OpenClaim := { program := "ytibjcfbilkkmkaa", sum := "c1b3537d27eb8e02359a7170d485cf94ba41b798f17b597565bceb9db7dff522", func := "prolix/prolixlaw12.ArithEvals", spec := "arithEvals", unfollowed := true, recurses := true, apart := false }
def ArithEvalsSaid : Prop := arithEvalsRow.holds Try.pinned (OpenSpec.ofChange arithEvalsSpec)

/-- ITS FALSE NEIGHBOUR: 'it returns false'. Refute it at one input. -/
def arithEvalsWrong : ChangeSpec := { name := "arithEvals", fn := fun _ => fun
  | [d1, d2, d3] => { results := [.lit (.bool false)], args := [d1, d2, d3] }
  | _ => none }
def ArithEvalsWrongFalsely : Prop := arithEvalsRow.holds Try.pinned (OpenSpec.ofChange arithEvalsWrong)

/-- 'prolixlaw12.ArithTells': WHATEVER THE INPUT: true; the input reads as it did. -/
def arithTellsSpec : ChangeSpec := { name := "arithTells", fn := fun _ => fun
  | [d1, d2] => { results := [.lit (.bool true)], args := [d1, d2] }
  | _ => none }
def arithTellsRow : OpenClaim := { program := "ytibjcfbilkkmkaa", sum := "c1b3537d27eb8e02359a7170d485cf94ba41b798f17b597565bceb9db7dff522", func := "prolix/prolixlaw12.ArithTells", spec := "arithTells", unfollowed := true, recurses := true, apart := false }
def ArithTellsSaid : Prop := arithTellsRow.holds Try.pinned (OpenSpec.ofChange arithTellsSpec)

/-- ITS FALSE NEIGHBOUR: 'it returns false'. Refute it at one input. -/
def arithTellsWrong : ChangeSpec := { name := "arithTells", fn := fun _ => fun
  | [d1, d2] => { results := [.lit (.bool false)], args := [d1, d2] }
  | _ => none }
def ArithTellsWrongFalsely : Prop := arithTellsRow.holds Try.pinned (OpenSpec.ofChange arithTellsWrong)

/- THE SECOND FORM. 'bulk': how many values and letters a reading holds, each counted each time it is reached (what is shared counts as often as it is met; a slice's spare places count too). A statement '..UptoSaid' is the law's where the arguments, and the package variables that the reading takes, are together of bulk at most 1048576: NARROWER than '..Said'. Prove '..Said' where nothing that the law and all that it calls make is longer than what came in: it says more and counts as full. Else prove '..UptoSaid'. A law counts once. -/
mutual
def uptoBulk {H : Type} : DataW H → Nat
  | .lit (.string bytes) => bytes.length + 1
  | .lit _ => 1
  | .nil => 1
  | .ptr d => uptoBulk d + 1
  | .slice elems spare => uptoBulkAll elems + uptoBulkAll spare + 1
  | .agg parts => uptoBulkAll parts + 1
  | .iface _ d => uptoBulk d + 1
  | .map entries => uptoBulkEntries entries + 1
  | .held _ => 1
def uptoBulkAll {H : Type} : List (DataW H) → Nat
  | [] => 0
  | d :: r => uptoBulk d + uptoBulkAll r
def uptoBulkEntries {H : Type} : List (Lit × DataW H) → Nat
  | [] => 0
  | x :: r => uptoBulkEntry x + uptoBulkEntries r
def uptoBulkEntry {H : Type} : Lit × DataW H → Nat
  | (.string bytes, d) => bytes.length + uptoBulk d + 1
  | (_, d) => uptoBulk d + 1
 end
def uptoSmall : (H : Type) → List (DataW H) → Bool := fun _ ds => decide (uptoBulkAll ds ≤ 1048576)
def OpenSpec.upto (s : _root_.Go.ChangeSpec) : _root_.Go.OpenSpec := { _root_.Go.OpenSpec.ofChange s with cond := some uptoSmall }

/-- 'prolixlaw19.CompCompiles', WHERE WHAT IT READS IS OF BULK AT MOST 1048576: true; the input reads as it did. -/
def compCompilesUptoRow : OpenClaim := { program := "ytibjcfbilkkmkaa", sum := "c1b3537d27eb8e02359a7170d485cf94ba41b798f17b597565bceb9db7dff522", func := "prolix/prolixlaw19.CompCompiles", spec := "compCompiles", unfollowed := true, recurses := true, apart := false, narrowed := true }
def CompCompilesUptoSaid : Prop := compCompilesUptoRow.holds Try.pinned (OpenSpec.upto compCompilesSpec)

/-- 'prolixlaw19.CompCodes', WHERE WHAT IT READS IS OF BULK AT MOST 1048576: true; the input reads as it did. -/
def compCodesUptoRow : OpenClaim := { program := "ytibjcfbilkkmkaa", sum := "c1b3537d27eb8e02359a7170d485cf94ba41b798f17b597565bceb9db7dff522", func := "prolix/prolixlaw19.CompCodes", spec := "compCodes", unfollowed := true, recurses := true, apart := false, narrowed := true }
def CompCodesUptoSaid : Prop := compCodesUptoRow.holds Try.pinned (OpenSpec.upto compCodesSpec)

/-- 'prolixlaw12.ArithEvals', WHERE WHAT IT READS IS OF BULK AT MOST 1048576: true; the input reads as it did. -/
def arithEvalsUptoRow : OpenClaim := { program := "ytibjcfbilkkmkaa", sum := "c1b3537d27eb8e02359a7170d485cf94ba41b798f17b597565bceb9db7dff522", func := "prolix/prolixlaw12.ArithEvals", spec := "arithEvals", unfollowed := true, recurses := true, apart := false, narrowed := true }
def ArithEvalsUptoSaid : Prop := arithEvalsUptoRow.holds Try.pinned (OpenSpec.upto arithEvalsSpec)

/-- 'prolixlaw12.ArithTells', WHERE WHAT IT READS IS OF BULK AT MOST 1048576: true; the input reads as it did. -/
def arithTellsUptoRow : OpenClaim := { program := "ytibjcfbilkkmkaa", sum := "c1b3537d27eb8e02359a7170d485cf94ba41b798f17b597565bceb9db7dff522", func := "prolix/prolixlaw12.ArithTells", spec := "arithTells", unfollowed := true, recurses := true, apart := false, narrowed := true }
def ArithTellsUptoSaid : Prop := arithTellsUptoRow.holds Try.pinned (OpenSpec.upto arithTellsSpec)

end Rows
end Go.Proofs.Ytibjcfbilkkmkaa
