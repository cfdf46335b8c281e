/-
  No cell of these rows narrows 'for every input' (looked for: loops, veiled, ifaces, maps, wideKeys, modest, calm, conditions, laid).
  DERIVED. THE GIVEN ROWS OF THIS SEAT. 11 by the template 'for every input the law returns true; each argument reads behind the call as it read before'; 0 by the template 'total and deterministic' (their statements: YtmlceamcpelklaaTotals.lean).
  GIVEN WITH THE SEED: the statements are not yours to turn. If you find one false, say at which input.
  Laid BY PROGRAM, IN A SANDBOX (cutbox-rows.mjs): the forced cells as the released guide's own fill.sh prints them over the translation 8fe9c7b5eb9c289b… (all of the seat's roots in one cut). By AI agents, Wed Nov 11 2026. No macro, syntax, notation, axiom, sorry.
-/
import Derived.Test.YtmlceamcpelklaaChecked
import GoSem.Claim
import GoSem.ClaimJoined
import GoSem.ClaimMapViews
import Derived.JoinedTies
import Derived.KernelRfl
namespace Go.Proofs.Ytmlceamcpelklaa
/- THE CELL 'sum', in the pinned program and in every row, IS THE sha256 OF THE DUMP (.gsa) THAT YtmlceamcpelklaaProg.lean LOADS. Nothing in Lean hashes anything: it is a label: what it is worth is what the hold of that sum in a sandbox is worth. -/
noncomputable def Try.pinned : Pinned := { name := "ytmlceamcpelklaa", sum := "8fe9c7b5eb9c289bcbe9b7819c8ffeb49833af30f9ab05b305ea64002dd3771f", checked := Try.checked }
namespace Rows
def none {H : Type} : Left H := { results := [], args := [] }

/-- 'prolixlaw15.GoalClauses': WHATEVER THE INPUT: true; the input reads as it did. -/
def goalClausesSpec : ChangeSpec := { name := "goalClauses", fn := fun _ => fun
  | [d] => { results := [.lit (.bool true)], args := [d] }
  | _ => none }
def goalClausesRow : OpenClaim := { program := "ytmlceamcpelklaa", sum := "8fe9c7b5eb9c289bcbe9b7819c8ffeb49833af30f9ab05b305ea64002dd3771f", func := "prolix/prolixlaw15.GoalClauses", spec := "goalClauses", unfollowed := true, recurses := true, plainKeys := false, apart := false }
def GoalClausesSaid : Prop := goalClausesRow.holds Try.pinned (OpenSpec.ofChange goalClausesSpec)

/-- ITS FALSE NEIGHBOUR: 'it returns false'. Refute it at one input. -/
def goalClausesWrong : ChangeSpec := { name := "goalClauses", fn := fun _ => fun
  | [d] => { results := [.lit (.bool false)], args := [d] }
  | _ => none }
def GoalClausesWrongFalsely : Prop := goalClausesRow.holds Try.pinned (OpenSpec.ofChange goalClausesWrong)

/-- 'prolixlaw15.GoalKinds': WHATEVER THE INPUT: true; the input reads as it did. -/
def goalKindsSpec : ChangeSpec := { name := "goalKinds", fn := fun _ => fun
  | [d] => { results := [.lit (.bool true)], args := [d] }
  | _ => none }
def goalKindsRow : OpenClaim := { program := "ytmlceamcpelklaa", sum := "8fe9c7b5eb9c289bcbe9b7819c8ffeb49833af30f9ab05b305ea64002dd3771f", func := "prolix/prolixlaw15.GoalKinds", spec := "goalKinds", unfollowed := true, recurses := true, plainKeys := false, apart := false }
def GoalKindsSaid : Prop := goalKindsRow.holds Try.pinned (OpenSpec.ofChange goalKindsSpec)

/-- ITS FALSE NEIGHBOUR: 'it returns false'. Refute it at one input. -/
def goalKindsWrong : ChangeSpec := { name := "goalKinds", fn := fun _ => fun
  | [d] => { results := [.lit (.bool false)], args := [d] }
  | _ => none }
def GoalKindsWrongFalsely : Prop := goalKindsRow.holds Try.pinned (OpenSpec.ofChange goalKindsWrong)

/-- 'prolixlaw15.GoalBodies': WHATEVER THE INPUT: true; the input reads as it did. -/
def goalBodiesSpec : ChangeSpec := { name := "goalBodies", fn := fun _ => fun
  | [d1, d2] => { results := [.lit (.bool true)], args := [d1, d2] }
  | _ => none }
def goalBodiesRow : OpenClaim := { program := "ytmlceamcpelklaa", sum := "8fe9c7b5eb9c289bcbe9b7819c8ffeb49833af30f9ab05b305ea64002dd3771f", func := "prolix/prolixlaw15.GoalBodies", spec := "goalBodies", unfollowed := true, recurses := true, plainKeys := false, apart := false }
def GoalBodiesSaid : Prop := goalBodiesRow.holds Try.pinned (OpenSpec.ofChange goalBodiesSpec)

/-- ITS FALSE NEIGHBOUR: 'it returns false'. Refute it at one input. -/
def goalBodiesWrong : ChangeSpec := { name := "goalBodies", fn := fun _ => fun
  | [d1, d2] => { results := [.lit (.bool false)], args := [d1, d2] }
  | _ => none }
def GoalBodiesWrongFalsely : Prop := goalBodiesRow.holds Try.pinned (OpenSpec.ofChange goalBodiesWrong)

/-- 'prolixlaw15.GoalMany': WHATEVER THE INPUT: true; the input reads as it did. -/
def goalManySpec : ChangeSpec := { name := "goalMany", fn := fun _ => fun
  | [d] => { results := [.lit (.bool true)], args := [d] }
  | _ => none }
def goalManyRow : OpenClaim := { program := "ytmlceamcpelklaa", sum := "8fe9c7b5eb9c289bcbe9b7819c8ffeb49833af30f9ab05b305ea64002dd3771f", func := "prolix/prolixlaw15.GoalMany", spec := "goalMany", unfollowed := true, recurses := true, plainKeys := false, apart := false }
def GoalManySaid : Prop := goalManyRow.holds Try.pinned (OpenSpec.ofChange goalManySpec)

/-- ITS FALSE NEIGHBOUR: 'it returns false'. Refute it at one input. -/
def goalManyWrong : ChangeSpec := { name := "goalMany", fn := fun _ => fun
  | [d] => { results := [.lit (.bool false)], args := [d] }
  | _ => none }
def GoalManyWrongFalsely : Prop := goalManyRow.holds Try.pinned (OpenSpec.ofChange goalManyWrong)

/-- 'prolixlaw19.CompNames': WHATEVER THE INPUT: true; the input reads as it did. -/
def compNamesSpec : ChangeSpec := { name := "compNames", fn := fun _ => fun
  | [d1, d2, d3] => { results := [.lit (.bool true)], args := [d1, d2, d3] }
  | _ => none }
def compNamesRow : OpenClaim := { program := "ytmlceamcpelklaa", sum := "8fe9c7b5eb9c289bcbe9b7819c8ffeb49833af30f9ab05b305ea64002dd3771f", func := "prolix/prolixlaw19.CompNames", spec := "compNames", unfollowed := true, recurses := true, plainKeys := false, apart := false }
def CompNamesSaid : Prop := compNamesRow.holds Try.pinned (OpenSpec.ofChange compNamesSpec)

/-- ITS FALSE NEIGHBOUR: 'it returns false'. Refute it at one input. -/
def compNamesWrong : ChangeSpec := { name := "compNames", fn := fun _ => fun
  | [d1, d2, d3] => { results := [.lit (.bool false)], args := [d1, d2, d3] }
  | _ => none }
def CompNamesWrongFalsely : Prop := compNamesRow.holds Try.pinned (OpenSpec.ofChange compNamesWrong)

/-- 'prolixlaw19.CompCompiles': WHATEVER THE INPUT: true; the input reads as it did. -/
def compCompilesSpec : ChangeSpec := { name := "compCompiles", fn := fun _ => fun
  | [d1, d2, d3] => { results := [.lit (.bool true)], args := [d1, d2, d3] }
  | _ => none }
def compCompilesRow : OpenClaim := { program := "ytmlceamcpelklaa", sum := "8fe9c7b5eb9c289bcbe9b7819c8ffeb49833af30f9ab05b305ea64002dd3771f", func := "prolix/prolixlaw19.CompCompiles", spec := "compCompiles", unfollowed := true, recurses := true, plainKeys := false, apart := false }
def CompCompilesSaid : Prop := compCompilesRow.holds Try.pinned (OpenSpec.ofChange compCompilesSpec)

/-- ITS FALSE NEIGHBOUR: 'it returns false'. Refute it at one input. -/
def compCompilesWrong : ChangeSpec := { name := "compCompiles", fn := fun _ => fun
  | [d1, d2, d3] => { results := [.lit (.bool false)], args := [d1, d2, d3] }
  | _ => none }
def CompCompilesWrongFalsely : Prop := compCompilesRow.holds Try.pinned (OpenSpec.ofChange compCompilesWrong)

/-- 'prolixlaw19.CompCodes': WHATEVER THE INPUT: true; the input reads as it did. -/
def compCodesSpec : ChangeSpec := { name := "compCodes", fn := fun _ => fun
  | [d] => { results := [.lit (.bool true)], args := [d] }
  | _ => none }
def compCodesRow : OpenClaim := { program := "ytmlceamcpelklaa", sum := "8fe9c7b5eb9c289bcbe9b7819c8ffeb49833af30f9ab05b305ea64002dd3771f", func := "prolix/prolixlaw19.CompCodes", spec := "compCodes", unfollowed := true, recurses := true, plainKeys := false, apart := false }
def CompCodesSaid : Prop := compCodesRow.holds Try.pinned (OpenSpec.ofChange compCodesSpec)

/-- ITS FALSE NEIGHBOUR: 'it returns false'. Refute it at one input. -/
def compCodesWrong : ChangeSpec := { name := "compCodes", fn := fun _ => fun
  | [d] => { results := [.lit (.bool false)], args := [d] }
  | _ => none }
def CompCodesWrongFalsely : Prop := compCodesRow.holds Try.pinned (OpenSpec.ofChange compCodesWrong)

/-- 'prolixlaw19.CompBack': WHATEVER THE INPUT: true; the input reads as it did. -/
def compBackSpec : ChangeSpec := { name := "compBack", fn := fun _ => fun
  | [d1, d2] => { results := [.lit (.bool true)], args := [d1, d2] }
  | _ => none }
def compBackRow : OpenClaim := { program := "ytmlceamcpelklaa", sum := "8fe9c7b5eb9c289bcbe9b7819c8ffeb49833af30f9ab05b305ea64002dd3771f", func := "prolix/prolixlaw19.CompBack", spec := "compBack", unfollowed := true, recurses := true, plainKeys := false, apart := false }
def CompBackSaid : Prop := compBackRow.holds Try.pinned (OpenSpec.ofChange compBackSpec)

/-- ITS FALSE NEIGHBOUR: 'it returns false'. Refute it at one input. -/
def compBackWrong : ChangeSpec := { name := "compBack", fn := fun _ => fun
  | [d1, d2] => { results := [.lit (.bool false)], args := [d1, d2] }
  | _ => none }
def CompBackWrongFalsely : Prop := compBackRow.holds Try.pinned (OpenSpec.ofChange compBackWrong)

/-- 'prolixlaw20.IndexPicks': WHATEVER THE INPUT: true; the input reads as it did. -/
def indexPicksSpec : ChangeSpec := { name := "indexPicks", fn := fun _ => fun
  | [d] => { results := [.lit (.bool true)], args := [d] }
  | _ => none }
def indexPicksRow : OpenClaim := { program := "ytmlceamcpelklaa", sum := "8fe9c7b5eb9c289bcbe9b7819c8ffeb49833af30f9ab05b305ea64002dd3771f", func := "prolix/prolixlaw20.IndexPicks", spec := "indexPicks", unfollowed := true, recurses := true, plainKeys := false, apart := false }
def IndexPicksSaid : Prop := indexPicksRow.holds Try.pinned (OpenSpec.ofChange indexPicksSpec)

/-- ITS FALSE NEIGHBOUR: 'it returns false'. Refute it at one input. -/
def indexPicksWrong : ChangeSpec := { name := "indexPicks", fn := fun _ => fun
  | [d] => { results := [.lit (.bool false)], args := [d] }
  | _ => none }
def IndexPicksWrongFalsely : Prop := indexPicksRow.holds Try.pinned (OpenSpec.ofChange indexPicksWrong)

/-- 'prolixlaw20.IndexParts': WHATEVER THE INPUT: true; the input reads as it did. -/
def indexPartsSpec : ChangeSpec := { name := "indexParts", fn := fun _ => fun
  | [d1, d2, d3] => { results := [.lit (.bool true)], args := [d1, d2, d3] }
  | _ => none }
def indexPartsRow : OpenClaim := { program := "ytmlceamcpelklaa", sum := "8fe9c7b5eb9c289bcbe9b7819c8ffeb49833af30f9ab05b305ea64002dd3771f", func := "prolix/prolixlaw20.IndexParts", spec := "indexParts", unfollowed := true, recurses := true, plainKeys := false, apart := false }
def IndexPartsSaid : Prop := indexPartsRow.holds Try.pinned (OpenSpec.ofChange indexPartsSpec)

/-- ITS FALSE NEIGHBOUR: 'it returns false'. Refute it at one input. -/
def indexPartsWrong : ChangeSpec := { name := "indexParts", fn := fun _ => fun
  | [d1, d2, d3] => { results := [.lit (.bool false)], args := [d1, d2, d3] }
  | _ => none }
def IndexPartsWrongFalsely : Prop := indexPartsRow.holds Try.pinned (OpenSpec.ofChange indexPartsWrong)

/-- 'prolixlaw03.TermOrders': WHATEVER THE INPUT: true; the input reads as it did. -/
def termOrdersSpec : ChangeSpec := { name := "termOrders", fn := fun _ => fun
  | [d1, d2] => { results := [.lit (.bool true)], args := [d1, d2] }
  | _ => none }
def termOrdersRow : OpenClaim := { program := "ytmlceamcpelklaa", sum := "8fe9c7b5eb9c289bcbe9b7819c8ffeb49833af30f9ab05b305ea64002dd3771f", func := "prolix/prolixlaw03.TermOrders", spec := "termOrders", inPlace := ["internal/bytealg.abigen_runtime_cmpstring"], unfollowed := true, recurses := true, plainKeys := false, apart := false }
def TermOrdersSaid : Prop := termOrdersRow.holds Try.pinned (OpenSpec.ofChange termOrdersSpec)

/-- ITS FALSE NEIGHBOUR: 'it returns false'. Refute it at one input. -/
def termOrdersWrong : ChangeSpec := { name := "termOrders", fn := fun _ => fun
  | [d1, d2] => { results := [.lit (.bool false)], args := [d1, d2] }
  | _ => none }
def TermOrdersWrongFalsely : Prop := termOrdersRow.holds Try.pinned (OpenSpec.ofChange termOrdersWrong)

/- THE SECOND FORM. 'bulk': how many values and letters a reading holds, each counted each time it is reached (what is shared counts as often as it is met; a slice's spare places count too). A statement '..UptoSaid' is the law's where the arguments, and the package variables that the reading takes, are together of bulk at most 1048576: NARROWER than '..Said'. Prove '..Said' where nothing that the law and all that it calls make is longer than what came in: it says more and counts as full. Else prove '..UptoSaid'. A law counts once. -/
mutual
def uptoBulk {H : Type} : DataW H → Nat
  | .lit (.string bytes) => bytes.length + 1
  | .lit _ => 1
  | .nil => 1
  | .ptr d => uptoBulk d + 1
  | .slice elems spare => uptoBulkAll elems + uptoBulkAll spare + 1
  | .agg parts => uptoBulkAll parts + 1
  | .iface _ d => uptoBulk d + 1
  | .map entries => uptoBulkEntries entries + 1
  | .held _ => 1
def uptoBulkAll {H : Type} : List (DataW H) → Nat
  | [] => 0
  | d :: r => uptoBulk d + uptoBulkAll r
def uptoBulkEntries {H : Type} : List (Lit × DataW H) → Nat
  | [] => 0
  | x :: r => uptoBulkEntry x + uptoBulkEntries r
def uptoBulkEntry {H : Type} : Lit × DataW H → Nat
  | (.string bytes, d) => bytes.length + uptoBulk d + 1
  | (_, d) => uptoBulk d + 1
 end
def uptoSmall : (H : Type) → List (DataW H) → Bool := fun _ ds => decide (uptoBulkAll ds ≤ 1048576)
def OpenSpec.upto (s : _root_.Go.ChangeSpec) : _root_.Go.OpenSpec := { _root_.Go.OpenSpec.ofChange s with cond := some uptoSmall }

/-- 'prolixlaw15.GoalClauses', WHERE WHAT IT READS IS OF BULK AT MOST 1048576: true; the input reads as it did. -/
def goalClausesUptoRow : OpenClaim := { program := "ytmlceamcpelklaa", sum := "8fe9c7b5eb9c289bcbe9b7819c8ffeb49833af30f9ab05b305ea64002dd3771f", func := "prolix/prolixlaw15.GoalClauses", spec := "goalClauses", unfollowed := true, recurses := true, plainKeys := false, apart := false, narrowed := true }
def GoalClausesUptoSaid : Prop := goalClausesUptoRow.holds Try.pinned (OpenSpec.upto goalClausesSpec)

/-- 'prolixlaw15.GoalKinds', WHERE WHAT IT READS IS OF BULK AT MOST 1048576: true; the input reads as it did. -/
def goalKindsUptoRow : OpenClaim := { program := "ytmlceamcpelklaa", sum := "8fe9c7b5eb9c289bcbe9b7819c8ffeb49833af30f9ab05b305ea64002dd3771f", func := "prolix/prolixlaw15.GoalKinds", spec := "goalKinds", unfollowed := true, recurses := true, plainKeys := false, apart := false, narrowed := true }
def GoalKindsUptoSaid : Prop := goalKindsUptoRow.holds Try.pinned (OpenSpec.upto goalKindsSpec)

/-- 'prolixlaw15.GoalBodies', WHERE WHAT IT READS IS OF BULK AT MOST 1048576: true; the input reads as it did. -/
def goalBodiesUptoRow : OpenClaim := { program := "ytmlceamcpelklaa", sum := "8fe9c7b5eb9c289bcbe9b7819c8ffeb49833af30f9ab05b305ea64002dd3771f", func := "prolix/prolixlaw15.GoalBodies", spec := "goalBodies", unfollowed := true, recurses := true, plainKeys := false, apart := false, narrowed := true }
def GoalBodiesUptoSaid : Prop := goalBodiesUptoRow.holds Try.pinned (OpenSpec.upto goalBodiesSpec)

/-- 'prolixlaw15.GoalMany', WHERE WHAT IT READS IS OF BULK AT MOST 1048576: true; the input reads as it did. -/
def goalManyUptoRow : OpenClaim := { program := "ytmlceamcpelklaa", sum := "8fe9c7b5eb9c289bcbe9b7819c8ffeb49833af30f9ab05b305ea64002dd3771f", func := "prolix/prolixlaw15.GoalMany", spec := "goalMany", unfollowed := true, recurses := true, plainKeys := false, apart := false, narrowed := true }
def GoalManyUptoSaid : Prop := goalManyUptoRow.holds Try.pinned (OpenSpec.upto goalManySpec)

/-- 'prolixlaw19.CompNames', WHERE WHAT IT READS IS OF BULK AT MOST 1048576: true; the input reads as it did. -/
def compNamesUptoRow : OpenClaim := { program := "ytmlceamcpelklaa", sum := "8fe9c7b5eb9c289bcbe9b7819c8ffeb49833af30f9ab05b305ea64002dd3771f", func := "prolix/prolixlaw19.CompNames", spec := "compNames", unfollowed := true, recurses := true, plainKeys := false, apart := false, narrowed := true }
def CompNamesUptoSaid : Prop := compNamesUptoRow.holds Try.pinned (OpenSpec.upto compNamesSpec)

/-- 'prolixlaw19.CompCompiles', WHERE WHAT IT READS IS OF BULK AT MOST 1048576: true; the input reads as it did. -/
def compCompilesUptoRow : OpenClaim := { program := "ytmlceamcpelklaa", sum := "8fe9c7b5eb9c289bcbe9b7819c8ffeb49833af30f9ab05b305ea64002dd3771f", func := "prolix/prolixlaw19.CompCompiles", spec := "compCompiles", unfollowed := true, recurses := true, plainKeys := false, apart := false, narrowed := true }
def CompCompilesUptoSaid : Prop := compCompilesUptoRow.holds Try.pinned (OpenSpec.upto compCompilesSpec)

/-- 'prolixlaw19.CompCodes', WHERE WHAT IT READS IS OF BULK AT MOST 1048576: true; the input reads as it did. -/
def compCodesUptoRow : OpenClaim := { program := "ytmlceamcpelklaa", sum := "8fe9c7b5eb9c289bcbe9b7819c8ffeb49833af30f9ab05b305ea64002dd3771f", func := "prolix/prolixlaw19.CompCodes", spec := "compCodes", unfollowed := true, recurses := true, plainKeys := false, apart := false, narrowed := true }
def CompCodesUptoSaid : Prop := compCodesUptoRow.holds Try.pinned (OpenSpec.upto compCodesSpec)

/-- 'prolixlaw19.CompBack', WHERE WHAT IT READS IS OF BULK AT MOST 1048576: true; the input reads as it did. -/
def compBackUptoRow : OpenClaim := { program := "ytmlceamcpelklaa", sum := "8fe9c7b5eb9c289bcbe9b7819c8ffeb49833af30f9ab05b305ea64002dd3771f", func := "prolix/prolixlaw19.CompBack", spec := "compBack", unfollowed := true, recurses := true, plainKeys := false, apart := false, narrowed := true }
def CompBackUptoSaid : Prop := compBackUptoRow.holds Try.pinned (OpenSpec.upto compBackSpec)

/-- 'prolixlaw20.IndexPicks', WHERE WHAT IT READS IS OF BULK AT MOST 1048576: true; the input reads as it did. -/
def indexPicksUptoRow : OpenClaim := { program := "ytmlceamcpelklaa", sum := "8fe9c7b5eb9c289bcbe9b7819c8ffeb49833af30f9ab05b305ea64002dd3771f", func := "prolix/prolixlaw20.IndexPicks", spec := "indexPicks", unfollowed := true, recurses := true, plainKeys := false, apart := false, narrowed := true }
def IndexPicksUptoSaid : Prop := indexPicksUptoRow.holds Try.pinned (OpenSpec.upto indexPicksSpec)

/-- 'prolixlaw20.IndexParts', WHERE WHAT IT READS IS OF BULK AT MOST 1048576: true; the input reads as it did. -/
def indexPartsUptoRow : OpenClaim := { program := "ytmlceamcpelklaa", sum := "8fe9c7b5eb9c289bcbe9b7819c8ffeb49833af30f9ab05b305ea64002dd3771f", func := "prolix/prolixlaw20.IndexParts", spec := "indexParts", unfollowed := true, recurses := true, plainKeys := false, apart := false, narrowed := true }
def IndexPartsUptoSaid : Prop := indexPartsUptoRow.holds Try.pinned (OpenSpec.upto indexPartsSpec)

/-- 'prolixlaw03.TermOrders', WHERE WHAT IT READS IS OF BULK AT MOST 1048576: true; the input reads as it did. -/
def termOrdersUptoRow : OpenClaim := { program := "ytmlceamcpelklaa", sum := "8fe9c7b5eb9c289bcbe9b7819c8ffeb49833af30f9ab05b305ea64002dd3771f", func := "prolix/prolixlaw03.TermOrders", spec := "termOrders", inPlace := ["internal/bytealg.abigen_runtime_cmpstring"], unfollowed := true, recurses := true, plainKeys := false, apart := false, narrowed := true }
def TermOrdersUptoSaid : Prop := termOrdersUptoRow.holds Try.pinned (OpenSpec.upto termOrdersSpec)

end Rows
end Go.Proofs.Ytmlceamcpelklaa
