/-
  No cell of these rows narrows 'for every input' (looked for: loops, veiled, ifaces, maps, wideKeys, modest, calm, conditions, laid).
  DERIVED. THE GIVEN ROWS OF THIS SEAT. 3 by the template 'for every input the law returns true; each argument reads behind the call as it read before'; 0 by the template 'total and deterministic' (their statements: YtcbijikalfodnaaTotals.lean).
  GIVEN WITH THE SEED: the statements are not yours to turn. If you find one false, say at which input.
  Laid BY PROGRAM, IN A SANDBOX (cutbox-rows.mjs): the forced cells as the released guide's own fill.sh prints them over the translation 08ffe4f42652df70… (all of the seat's roots in one cut). By AI agents, Wed Nov 11 2026. No macro, syntax, notation, axiom, sorry.
-/
import Derived.Test.YtcbijikalfodnaaChecked
import GoSem.Claim
import GoSem.ClaimJoined
import GoSem.ClaimMapViews
import Derived.JoinedTies
import Derived.KernelRfl
namespace Go.Proofs.Ytcbijikalfodnaa
/- THE CELL 'sum', in the pinned program and in every row, IS THE sha256 OF THE DUMP (.gsa) THAT YtcbijikalfodnaaProg.lean LOADS. Nothing in Lean hashes anything: it is a label: what it is worth is what the hold of that sum in a sandbox is worth. -/
noncomputable def Try.pinned : Pinned := { name := "ytcbijikalfodnaa", sum := "08ffe4f42652df70f7ab1991c4f7111cee8684e8c332f67115fe875f2f35793b", checked := Try.checked }
namespace Rows
def none {H : Type} : Left H := { results := [], args := [] }

/-- 'prolixlaw21.ExecFails': WHATEVER THE INPUT: true; the input reads as it did. -/
def execFailsSpec : ChangeSpec := { name := "execFails", fn := fun _ => fun
  | [d] => { results := [.lit (.bool true)], args := [d] }
  | _ => none }
def execFailsRow : OpenClaim := { program := "ytcbijikalfodnaa", sum := "08ffe4f42652df70f7ab1991c4f7111cee8684e8c332f67115fe875f2f35793b", func := "prolix/prolixlaw21.ExecFails", spec := "execFails", unfollowed := true, recurses := true, apart := false }
def ExecFailsSaid : Prop := execFailsRow.holds Try.pinned (OpenSpec.ofChange execFailsSpec)

/-- ITS FALSE NEIGHBOUR: 'it returns false'. Refute it at one input. -/
def execFailsWrong : ChangeSpec := { name := "execFails", fn := fun _ => fun
  | [d] => { results := [.lit (.bool false)], args := [d] }
  | _ => none }
def ExecFailsWrongFalsely : Prop := execFailsRow.holds Try.pinned (OpenSpec.ofChange execFailsWrong)

/-- 'prolixlaw21.ExecSelf': WHATEVER THE INPUT: true; the input reads as it did. -/
def execSelfSpec : ChangeSpec := { name := "execSelf", fn := fun _ => fun
  | [d1, d2] => { results := [.lit (.bool true)], args := [d1, d2] }
  | _ => none }
def execSelfRow : OpenClaim := { program := "ytcbijikalfodnaa", sum := "08ffe4f42652df70f7ab1991c4f7111cee8684e8c332f67115fe875f2f35793b", func := "prolix/prolixlaw21.ExecSelf", spec := "execSelf", unfollowed := true, recurses := true, apart := false }
def ExecSelfSaid : Prop := execSelfRow.holds Try.pinned (OpenSpec.ofChange execSelfSpec)

/-- ITS FALSE NEIGHBOUR: 'it returns false'. Refute it at one input. -/
def execSelfWrong : ChangeSpec := { name := "execSelf", fn := fun _ => fun
  | [d1, d2] => { results := [.lit (.bool false)], args := [d1, d2] }
  | _ => none }
def ExecSelfWrongFalsely : Prop := execSelfRow.holds Try.pinned (OpenSpec.ofChange execSelfWrong)

/-- 'prolixlaw21.ExecTwice': WHATEVER THE INPUT: true; the input reads as it did. -/
def execTwiceSpec : ChangeSpec := { name := "execTwice", fn := fun _ => fun
  | [d1, d2] => { results := [.lit (.bool true)], args := [d1, d2] }
  | _ => none }
def execTwiceRow : OpenClaim := { program := "ytcbijikalfodnaa", sum := "08ffe4f42652df70f7ab1991c4f7111cee8684e8c332f67115fe875f2f35793b", func := "prolix/prolixlaw21.ExecTwice", spec := "execTwice", unfollowed := true, recurses := true, apart := false }
def ExecTwiceSaid : Prop := execTwiceRow.holds Try.pinned (OpenSpec.ofChange execTwiceSpec)

/-- ITS FALSE NEIGHBOUR: 'it returns false'. Refute it at one input. -/
def execTwiceWrong : ChangeSpec := { name := "execTwice", fn := fun _ => fun
  | [d1, d2] => { results := [.lit (.bool false)], args := [d1, d2] }
  | _ => none }
def ExecTwiceWrongFalsely : Prop := execTwiceRow.holds Try.pinned (OpenSpec.ofChange execTwiceWrong)

/- THE SECOND FORM. 'bulk': how many values and letters a reading holds, each counted each time it is reached (what is shared counts as often as it is met; a slice's spare places count too). A statement '..UptoSaid' is the law's where the arguments, and the package variables that the reading takes, are together of bulk at most 1048576: NARROWER than '..Said'. Prove '..Said' where nothing that the law and all that it calls make is longer than what came in: it says more and counts as full. Else prove '..UptoSaid'. A law counts once. -/
mutual
def uptoBulk {H : Type} : DataW H → Nat
  | .lit (.string bytes) => bytes.length + 1
  | .lit _ => 1
  | .nil => 1
  | .ptr d => uptoBulk d + 1
  | .slice elems spare => uptoBulkAll elems + uptoBulkAll spare + 1
  | .agg parts => uptoBulkAll parts + 1
  | .iface _ d => uptoBulk d + 1
  | .map entries => uptoBulkEntries entries + 1
  | .held _ => 1
def uptoBulkAll {H : Type} : List (DataW H) → Nat
  | [] => 0
  | d :: r => uptoBulk d + uptoBulkAll r
def uptoBulkEntries {H : Type} : List (Lit × DataW H) → Nat
  | [] => 0
  | x :: r => uptoBulkEntry x + uptoBulkEntries r
def uptoBulkEntry {H : Type} : Lit × DataW H → Nat
  | (.string bytes, d) => bytes.length + uptoBulk d + 1
  | (_, d) => uptoBulk d + 1
 end
def uptoSmall : (H : Type) → List (DataW H) → Bool := fun _ ds => decide (uptoBulkAll ds ≤ 1048576)
def OpenSpec.upto (s : _root_.Go.ChangeSpec) : _root_.Go.OpenSpec := { _root_.Go.OpenSpec.ofChange s with cond := some uptoSmall }

/-- 'prolixlaw21.ExecFails', WHERE WHAT IT READS IS OF BULK AT MOST 1048576: true; the input reads as it did. -/
def execFailsUptoRow : OpenClaim := { program := "ytcbijikalfodnaa", sum := "08ffe4f42652df70f7ab1991c4f7111cee8684e8c332f67115fe875f2f35793b", func := "prolix/prolixlaw21.ExecFails", spec := "execFails", unfollowed := true, recurses := true, apart := false, narrowed := true }
def ExecFailsUptoSaid : Prop := execFailsUptoRow.holds Try.pinned (OpenSpec.upto execFailsSpec)

/-- 'prolixlaw21.ExecSelf', WHERE WHAT IT READS IS OF BULK AT MOST 1048576: true; the input reads as it did. -/
def execSelfUptoRow : OpenClaim := { program := "ytcbijikalfodnaa", sum := "08ffe4f42652df70f7ab1991c4f7111cee8684e8c332f67115fe875f2f35793b", func := "prolix/prolixlaw21.ExecSelf", spec := "execSelf", unfollowed := true, recurses := true, apart := false, narrowed := true }
def ExecSelfUptoSaid : Prop := execSelfUptoRow.holds Try.pinned (OpenSpec.upto execSelfSpec)

/-- 'prolixlaw21.ExecTwice', WHERE WHAT IT READS IS OF BULK AT MOST 1048576: true; the input reads as it did. -/
def execTwiceUptoRow : OpenClaim := { program := "ytcbijikalfodnaa", sum := "08ffe4f42652df70f7ab1991c4f7111cee8684e8c332f67115fe875f2f35793b", func := "prolix/prolixlaw21.ExecTwice", spec := "execTwice", unfollowed := true, recurses := true, apart := false, narrowed := true }
def ExecTwiceUptoSaid : Prop := execTwiceUptoRow.holds Try.pinned (OpenSpec.upto execTwiceSpec)

end Rows
end Go.Proofs.Ytcbijikalfodnaa
