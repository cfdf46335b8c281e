/-
  No cell of these rows narrows 'for every input' (looked for: loops, veiled, ifaces, maps, wideKeys, modest, calm, conditions, laid).
  DERIVED. THE GIVEN ROWS OF THIS SEAT. 11 by the template 'for every input the law returns true; each argument reads behind the call as it read before'; 0 by the template 'total and deterministic' (their statements: YtokhiolimioicaaTotals.lean).
  GIVEN WITH THE SEED: the statements are not yours to turn. If you find one false, say at which input.
  Laid BY PROGRAM, IN A SANDBOX (cutbox-rows.mjs): the forced cells as the released guide's own fill.sh prints them over the translation 5521ae0158414594… (all of the seat's roots in one cut). By AI agents, Wed Nov 11 2026. No macro, syntax, notation, axiom, sorry.
-/
import Derived.Test.YtokhiolimioicaaChecked
import GoSem.Claim
import GoSem.ClaimJoined
import GoSem.ClaimMapViews
import Derived.JoinedTies
import Derived.KernelRfl
namespace Go.Proofs.Ytokhiolimioicaa
/- THE CELL 'sum', in the pinned program and in every row, IS THE sha256 OF THE DUMP (.gsa) THAT YtokhiolimioicaaProg.lean LOADS. Nothing in Lean hashes anything: it is a label: what it is worth is what the hold of that sum in a sandbox is worth. -/
noncomputable def Try.pinned : Pinned := { name := "ytokhiolimioicaa", sum := "5521ae0158414594ec5309f3fcd0f266e8f4a01f0cb87059a7f7c9f115a7dfca", checked := Try.checked }
namespace Rows
def none {H : Type} : Left H := { results := [], args := [] }

/-- 'prolixlaw03.TermChecks': WHATEVER THE INPUT: true; the input reads as it did. -/
def termChecksSpec : ChangeSpec := { name := "termChecks", fn := fun _ => fun
  | [d] => { results := [.lit (.bool true)], args := [d] }
  | _ => none }
def termChecksRow : OpenClaim := { program := "ytokhiolimioicaa", sum := "5521ae0158414594ec5309f3fcd0f266e8f4a01f0cb87059a7f7c9f115a7dfca", func := "prolix/prolixlaw03.TermChecks", spec := "termChecks", inPlace := ["internal/bytealg.abigen_runtime_cmpstring"], unfollowed := true, recurses := true, plainKeys := false, apart := false }
def TermChecksSaid : Prop := termChecksRow.holds Try.pinned (OpenSpec.ofChange termChecksSpec)

/-- ITS FALSE NEIGHBOUR: 'it returns false'. Refute it at one input. -/
def termChecksWrong : ChangeSpec := { name := "termChecks", fn := fun _ => fun
  | [d] => { results := [.lit (.bool false)], args := [d] }
  | _ => none }
def TermChecksWrongFalsely : Prop := termChecksRow.holds Try.pinned (OpenSpec.ofChange termChecksWrong)

/-- 'prolixlaw03.TermOrder': WHATEVER THE INPUT: true; the input reads as it did. -/
def termOrderSpec : ChangeSpec := { name := "termOrder", fn := fun _ => fun
  | [d1, d2, d3] => { results := [.lit (.bool true)], args := [d1, d2, d3] }
  | _ => none }
def termOrderRow : OpenClaim := { program := "ytokhiolimioicaa", sum := "5521ae0158414594ec5309f3fcd0f266e8f4a01f0cb87059a7f7c9f115a7dfca", func := "prolix/prolixlaw03.TermOrder", spec := "termOrder", inPlace := ["internal/bytealg.abigen_runtime_cmpstring"], unfollowed := true, recurses := true, plainKeys := false, apart := false }
def TermOrderSaid : Prop := termOrderRow.holds Try.pinned (OpenSpec.ofChange termOrderSpec)

/-- ITS FALSE NEIGHBOUR: 'it returns false'. Refute it at one input. -/
def termOrderWrong : ChangeSpec := { name := "termOrder", fn := fun _ => fun
  | [d1, d2, d3] => { results := [.lit (.bool false)], args := [d1, d2, d3] }
  | _ => none }
def TermOrderWrongFalsely : Prop := termOrderRow.holds Try.pinned (OpenSpec.ofChange termOrderWrong)

/-- 'prolixlaw03.TermNumbers': WHATEVER THE INPUT: true; the input reads as it did. -/
def termNumbersSpec : ChangeSpec := { name := "termNumbers", fn := fun _ => fun
  | [d] => { results := [.lit (.bool true)], args := [d] }
  | _ => none }
def termNumbersRow : OpenClaim := { program := "ytokhiolimioicaa", sum := "5521ae0158414594ec5309f3fcd0f266e8f4a01f0cb87059a7f7c9f115a7dfca", func := "prolix/prolixlaw03.TermNumbers", spec := "termNumbers", inPlace := ["internal/bytealg.abigen_runtime_cmpstring"], unfollowed := true, recurses := true, plainKeys := false, apart := false }
def TermNumbersSaid : Prop := termNumbersRow.holds Try.pinned (OpenSpec.ofChange termNumbersSpec)

/-- ITS FALSE NEIGHBOUR: 'it returns false'. Refute it at one input. -/
def termNumbersWrong : ChangeSpec := { name := "termNumbers", fn := fun _ => fun
  | [d] => { results := [.lit (.bool false)], args := [d] }
  | _ => none }
def TermNumbersWrongFalsely : Prop := termNumbersRow.holds Try.pinned (OpenSpec.ofChange termNumbersWrong)

/-- 'prolixlaw03.TermParts': WHATEVER THE INPUT: true; the input reads as it did. -/
def termPartsSpec : ChangeSpec := { name := "termParts", fn := fun _ => fun
  | [d1, d2] => { results := [.lit (.bool true)], args := [d1, d2] }
  | _ => none }
def termPartsRow : OpenClaim := { program := "ytokhiolimioicaa", sum := "5521ae0158414594ec5309f3fcd0f266e8f4a01f0cb87059a7f7c9f115a7dfca", func := "prolix/prolixlaw03.TermParts", spec := "termParts", inPlace := ["internal/bytealg.abigen_runtime_cmpstring"], unfollowed := true, recurses := true, plainKeys := false, apart := false }
def TermPartsSaid : Prop := termPartsRow.holds Try.pinned (OpenSpec.ofChange termPartsSpec)

/-- ITS FALSE NEIGHBOUR: 'it returns false'. Refute it at one input. -/
def termPartsWrong : ChangeSpec := { name := "termParts", fn := fun _ => fun
  | [d1, d2] => { results := [.lit (.bool false)], args := [d1, d2] }
  | _ => none }
def TermPartsWrongFalsely : Prop := termPartsRow.holds Try.pinned (OpenSpec.ofChange termPartsWrong)

/-- 'prolixlaw15.GoalClauses': WHATEVER THE INPUT: true; the input reads as it did. -/
def goalClausesSpec : ChangeSpec := { name := "goalClauses", fn := fun _ => fun
  | [d] => { results := [.lit (.bool true)], args := [d] }
  | _ => none }
def goalClausesRow : OpenClaim := { program := "ytokhiolimioicaa", sum := "5521ae0158414594ec5309f3fcd0f266e8f4a01f0cb87059a7f7c9f115a7dfca", func := "prolix/prolixlaw15.GoalClauses", spec := "goalClauses", unfollowed := true, recurses := true, plainKeys := false, apart := false }
def GoalClausesSaid : Prop := goalClausesRow.holds Try.pinned (OpenSpec.ofChange goalClausesSpec)

/-- ITS FALSE NEIGHBOUR: 'it returns false'. Refute it at one input. -/
def goalClausesWrong : ChangeSpec := { name := "goalClauses", fn := fun _ => fun
  | [d] => { results := [.lit (.bool false)], args := [d] }
  | _ => none }
def GoalClausesWrongFalsely : Prop := goalClausesRow.holds Try.pinned (OpenSpec.ofChange goalClausesWrong)

/-- 'prolixlaw03.TermOrders': WHATEVER THE INPUT: true; the input reads as it did. -/
def termOrdersSpec : ChangeSpec := { name := "termOrders", fn := fun _ => fun
  | [d1, d2] => { results := [.lit (.bool true)], args := [d1, d2] }
  | _ => none }
def termOrdersRow : OpenClaim := { program := "ytokhiolimioicaa", sum := "5521ae0158414594ec5309f3fcd0f266e8f4a01f0cb87059a7f7c9f115a7dfca", func := "prolix/prolixlaw03.TermOrders", spec := "termOrders", inPlace := ["internal/bytealg.abigen_runtime_cmpstring"], unfollowed := true, recurses := true, plainKeys := false, apart := false }
def TermOrdersSaid : Prop := termOrdersRow.holds Try.pinned (OpenSpec.ofChange termOrdersSpec)

/-- ITS FALSE NEIGHBOUR: 'it returns false'. Refute it at one input. -/
def termOrdersWrong : ChangeSpec := { name := "termOrders", fn := fun _ => fun
  | [d1, d2] => { results := [.lit (.bool false)], args := [d1, d2] }
  | _ => none }
def TermOrdersWrongFalsely : Prop := termOrdersRow.holds Try.pinned (OpenSpec.ofChange termOrdersWrong)

/-- 'prolixlaw13.FaultApart': WHATEVER THE INPUT: true; the input reads as it did. -/
def faultApartSpec : ChangeSpec := { name := "faultApart", fn := fun _ => fun
  | [d1, d2] => { results := [.lit (.bool true)], args := [d1, d2] }
  | _ => none }
def faultApartRow : OpenClaim := { program := "ytokhiolimioicaa", sum := "5521ae0158414594ec5309f3fcd0f266e8f4a01f0cb87059a7f7c9f115a7dfca", func := "prolix/prolixlaw13.FaultApart", spec := "faultApart", inPlace := ["internal/bytealg.abigen_runtime_cmpstring"], unfollowed := true, recurses := true, plainKeys := false, apart := false }
def FaultApartSaid : Prop := faultApartRow.holds Try.pinned (OpenSpec.ofChange faultApartSpec)

/-- ITS FALSE NEIGHBOUR: 'it returns false'. Refute it at one input. -/
def faultApartWrong : ChangeSpec := { name := "faultApart", fn := fun _ => fun
  | [d1, d2] => { results := [.lit (.bool false)], args := [d1, d2] }
  | _ => none }
def FaultApartWrongFalsely : Prop := faultApartRow.holds Try.pinned (OpenSpec.ofChange faultApartWrong)

/-- 'prolixlaw03.TermLists': WHATEVER THE INPUT: true; the input reads as it did. -/
def termListsSpec : ChangeSpec := { name := "termLists", fn := fun _ => fun
  | [d1, d2] => { results := [.lit (.bool true)], args := [d1, d2] }
  | _ => none }
def termListsRow : OpenClaim := { program := "ytokhiolimioicaa", sum := "5521ae0158414594ec5309f3fcd0f266e8f4a01f0cb87059a7f7c9f115a7dfca", func := "prolix/prolixlaw03.TermLists", spec := "termLists", inPlace := ["internal/bytealg.abigen_runtime_cmpstring"], unfollowed := true, recurses := true, plainKeys := false, apart := false }
def TermListsSaid : Prop := termListsRow.holds Try.pinned (OpenSpec.ofChange termListsSpec)

/-- ITS FALSE NEIGHBOUR: 'it returns false'. Refute it at one input. -/
def termListsWrong : ChangeSpec := { name := "termLists", fn := fun _ => fun
  | [d1, d2] => { results := [.lit (.bool false)], args := [d1, d2] }
  | _ => none }
def TermListsWrongFalsely : Prop := termListsRow.holds Try.pinned (OpenSpec.ofChange termListsWrong)

/-- 'prolixlaw15.GoalKinds': WHATEVER THE INPUT: true; the input reads as it did. -/
def goalKindsSpec : ChangeSpec := { name := "goalKinds", fn := fun _ => fun
  | [d] => { results := [.lit (.bool true)], args := [d] }
  | _ => none }
def goalKindsRow : OpenClaim := { program := "ytokhiolimioicaa", sum := "5521ae0158414594ec5309f3fcd0f266e8f4a01f0cb87059a7f7c9f115a7dfca", func := "prolix/prolixlaw15.GoalKinds", spec := "goalKinds", unfollowed := true, recurses := true, plainKeys := false, apart := false }
def GoalKindsSaid : Prop := goalKindsRow.holds Try.pinned (OpenSpec.ofChange goalKindsSpec)

/-- ITS FALSE NEIGHBOUR: 'it returns false'. Refute it at one input. -/
def goalKindsWrong : ChangeSpec := { name := "goalKinds", fn := fun _ => fun
  | [d] => { results := [.lit (.bool false)], args := [d] }
  | _ => none }
def GoalKindsWrongFalsely : Prop := goalKindsRow.holds Try.pinned (OpenSpec.ofChange goalKindsWrong)

/-- 'prolixlaw15.GoalBodies': WHATEVER THE INPUT: true; the input reads as it did. -/
def goalBodiesSpec : ChangeSpec := { name := "goalBodies", fn := fun _ => fun
  | [d1, d2] => { results := [.lit (.bool true)], args := [d1, d2] }
  | _ => none }
def goalBodiesRow : OpenClaim := { program := "ytokhiolimioicaa", sum := "5521ae0158414594ec5309f3fcd0f266e8f4a01f0cb87059a7f7c9f115a7dfca", func := "prolix/prolixlaw15.GoalBodies", spec := "goalBodies", unfollowed := true, recurses := true, plainKeys := false, apart := false }
def GoalBodiesSaid : Prop := goalBodiesRow.holds Try.pinned (OpenSpec.ofChange goalBodiesSpec)

/-- ITS FALSE NEIGHBOUR: 'it returns false'. Refute it at one input. -/
def goalBodiesWrong : ChangeSpec := { name := "goalBodies", fn := fun _ => fun
  | [d1, d2] => { results := [.lit (.bool false)], args := [d1, d2] }
  | _ => none }
def GoalBodiesWrongFalsely : Prop := goalBodiesRow.holds Try.pinned (OpenSpec.ofChange goalBodiesWrong)

/-- 'prolixlaw15.GoalMany': WHATEVER THE INPUT: true; the input reads as it did. -/
def goalManySpec : ChangeSpec := { name := "goalMany", fn := fun _ => fun
  | [d] => { results := [.lit (.bool true)], args := [d] }
  | _ => none }
def goalManyRow : OpenClaim := { program := "ytokhiolimioicaa", sum := "5521ae0158414594ec5309f3fcd0f266e8f4a01f0cb87059a7f7c9f115a7dfca", func := "prolix/prolixlaw15.GoalMany", spec := "goalMany", unfollowed := true, recurses := true, plainKeys := false, apart := false }
def GoalManySaid : Prop := goalManyRow.holds Try.pinned (OpenSpec.ofChange goalManySpec)

/-- ITS FALSE NEIGHBOUR: 'it returns false'. Refute it at one input. -/
def goalManyWrong : ChangeSpec := { name := "goalMany", fn := fun _ => fun
  | [d] => { results := [.lit (.bool false)], args := [d] }
  | _ => none }
def GoalManyWrongFalsely : Prop := goalManyRow.holds Try.pinned (OpenSpec.ofChange goalManyWrong)

/- THE SECOND FORM. 'bulk': how many values and letters a reading holds, each counted each time it is reached (what is shared counts as often as it is met; a slice's spare places count too). A statement '..UptoSaid' is the law's where the arguments, and the package variables that the reading takes, are together of bulk at most 1048576: NARROWER than '..Said'. Prove '..Said' where nothing that the law and all that it calls make is longer than what came in: it says more and counts as full. Else prove '..UptoSaid'. A law counts once. -/
mutual
def uptoBulk {H : Type} : DataW H → Nat
  | .lit (.string bytes) => bytes.length + 1
  | .lit _ => 1
  | .nil => 1
  | .ptr d => uptoBulk d + 1
  | .slice elems spare => uptoBulkAll elems + uptoBulkAll spare + 1
  | .agg parts => uptoBulkAll parts + 1
  | .iface _ d => uptoBulk d + 1
  | .map entries => uptoBulkEntries entries + 1
  | .held _ => 1
def uptoBulkAll {H : Type} : List (DataW H) → Nat
  | [] => 0
  | d :: r => uptoBulk d + uptoBulkAll r
def uptoBulkEntries {H : Type} : List (Lit × DataW H) → Nat
  | [] => 0
  | x :: r => uptoBulkEntry x + uptoBulkEntries r
def uptoBulkEntry {H : Type} : Lit × DataW H → Nat
  | (.string bytes, d) => bytes.length + uptoBulk d + 1
  | (_, d) => uptoBulk d + 1
 end
def uptoSmall : (H : Type) → List (DataW H) → Bool := fun _ ds => decide (uptoBulkAll ds ≤ 1048576)
def OpenSpec.upto (s : _root_.Go.ChangeSpec) : _root_.Go.OpenSpec := { _root_.Go.OpenSpec.ofChange s with cond := some uptoSmall }

/-- 'prolixlaw03.TermChecks', WHERE WHAT IT READS IS OF BULK AT MOST 1048576: true; the input reads as it did. -/
def termChecksUptoRow : OpenClaim := { program := "ytokhiolimioicaa", sum := "5521ae0158414594ec5309f3fcd0f266e8f4a01f0cb87059a7f7c9f115a7dfca", func := "prolix/prolixlaw03.TermChecks", spec := "termChecks", inPlace := ["internal/bytealg.abigen_runtime_cmpstring"], unfollowed := true, recurses := true, plainKeys := false, apart := false, narrowed := true }
def TermChecksUptoSaid : Prop := termChecksUptoRow.holds Try.pinned (OpenSpec.upto termChecksSpec)

/-- 'prolixlaw03.TermOrder', WHERE WHAT IT READS IS OF BULK AT MOST 1048576: true; the input reads as it did. -/
def termOrderUptoRow : OpenClaim := { program := "ytokhiolimioicaa", sum := "5521ae0158414594ec5309f3fcd0f266e8f4a01f0cb87059a7f7c9f115a7dfca", func := "prolix/prolixlaw03.TermOrder", spec := "termOrder", inPlace := ["internal/bytealg.abigen_runtime_cmpstring"], unfollowed := true, recurses := true, plainKeys := false, apart := false, narrowed := true }
def TermOrderUptoSaid : Prop := termOrderUptoRow.holds Try.pinned (OpenSpec.upto termOrderSpec)

/-- 'prolixlaw03.TermNumbers', WHERE WHAT IT READS IS OF BULK AT MOST 1048576: true; the input reads as it did. -/
def termNumbersUptoRow : OpenClaim := { program := "ytokhiolimioicaa", sum := "5521ae0158414594ec5309f3fcd0f266e8f4a01f0cb87059a7f7c9f115a7dfca", func := "prolix/prolixlaw03.TermNumbers", spec := "termNumbers", inPlace := ["internal/bytealg.abigen_runtime_cmpstring"], unfollowed := true, recurses := true, plainKeys := false, apart := false, narrowed := true }
def TermNumbersUptoSaid : Prop := termNumbersUptoRow.holds Try.pinned (OpenSpec.upto termNumbersSpec)

/-- 'prolixlaw03.TermParts', WHERE WHAT IT READS IS OF BULK AT MOST 1048576: true; the input reads as it did. -/
def termPartsUptoRow : OpenClaim := { program := "ytokhiolimioicaa", sum := "5521ae0158414594ec5309f3fcd0f266e8f4a01f0cb87059a7f7c9f115a7dfca", func := "prolix/prolixlaw03.TermParts", spec := "termParts", inPlace := ["internal/bytealg.abigen_runtime_cmpstring"], unfollowed := true, recurses := true, plainKeys := false, apart := false, narrowed := true }
def TermPartsUptoSaid : Prop := termPartsUptoRow.holds Try.pinned (OpenSpec.upto termPartsSpec)

/-- 'prolixlaw15.GoalClauses', WHERE WHAT IT READS IS OF BULK AT MOST 1048576: true; the input reads as it did. -/
def goalClausesUptoRow : OpenClaim := { program := "ytokhiolimioicaa", sum := "5521ae0158414594ec5309f3fcd0f266e8f4a01f0cb87059a7f7c9f115a7dfca", func := "prolix/prolixlaw15.GoalClauses", spec := "goalClauses", unfollowed := true, recurses := true, plainKeys := false, apart := false, narrowed := true }
def GoalClausesUptoSaid : Prop := goalClausesUptoRow.holds Try.pinned (OpenSpec.upto goalClausesSpec)

/-- 'prolixlaw03.TermOrders', WHERE WHAT IT READS IS OF BULK AT MOST 1048576: true; the input reads as it did. -/
def termOrdersUptoRow : OpenClaim := { program := "ytokhiolimioicaa", sum := "5521ae0158414594ec5309f3fcd0f266e8f4a01f0cb87059a7f7c9f115a7dfca", func := "prolix/prolixlaw03.TermOrders", spec := "termOrders", inPlace := ["internal/bytealg.abigen_runtime_cmpstring"], unfollowed := true, recurses := true, plainKeys := false, apart := false, narrowed := true }
def TermOrdersUptoSaid : Prop := termOrdersUptoRow.holds Try.pinned (OpenSpec.upto termOrdersSpec)

/-- 'prolixlaw13.FaultApart', WHERE WHAT IT READS IS OF BULK AT MOST 1048576: true; the input reads as it did. -/
def faultApartUptoRow : OpenClaim := { program := "ytokhiolimioicaa", sum := "5521ae0158414594ec5309f3fcd0f266e8f4a01f0cb87059a7f7c9f115a7dfca", func := "prolix/prolixlaw13.FaultApart", spec := "faultApart", inPlace := ["internal/bytealg.abigen_runtime_cmpstring"], unfollowed := true, recurses := true, plainKeys := false, apart := false, narrowed := true }
def FaultApartUptoSaid : Prop := faultApartUptoRow.holds Try.pinned (OpenSpec.upto faultApartSpec)

/-- 'prolixlaw03.TermLists', WHERE WHAT IT READS IS OF BULK AT MOST 1048576: true; the input reads as it did. -/
def termListsUptoRow : OpenClaim := { program := "ytokhiolimioicaa", sum := "5521ae0158414594ec5309f3fcd0f266e8f4a01f0cb87059a7f7c9f115a7dfca", func := "prolix/prolixlaw03.TermLists", spec := "termLists", inPlace := ["internal/bytealg.abigen_runtime_cmpstring"], unfollowed := true, recurses := true, plainKeys := false, apart := false, narrowed := true }
def TermListsUptoSaid : Prop := termListsUptoRow.holds Try.pinned (OpenSpec.upto termListsSpec)

/-- 'prolixlaw15.GoalKinds', WHERE WHAT IT READS IS OF BULK AT MOST 1048576: true; the input reads as it did. -/
def goalKindsUptoRow : OpenClaim := { program := "ytokhiolimioicaa", sum := "5521ae0158414594ec5309f3fcd0f266e8f4a01f0cb87059a7f7c9f115a7dfca", func := "prolix/prolixlaw15.GoalKinds", spec := "goalKinds", unfollowed := true, recurses := true, plainKeys := false, apart := false, narrowed := true }
def GoalKindsUptoSaid : Prop := goalKindsUptoRow.holds Try.pinned (OpenSpec.upto goalKindsSpec)

/-- 'prolixlaw15.GoalBodies', WHERE WHAT IT READS IS OF BULK AT MOST 1048576: true; the input reads as it did. -/
def goalBodiesUptoRow : OpenClaim := { program := "ytokhiolimioicaa", sum := "5521ae0158414594ec5309f3fcd0f266e8f4a01f0cb87059a7f7c9f115a7dfca", func := "prolix/prolixlaw15.GoalBodies", spec := "goalBodies", unfollowed := true, recurses := true, plainKeys := false, apart := false, narrowed := true }
def GoalBodiesUptoSaid : Prop := goalBodiesUptoRow.holds Try.pinned (OpenSpec.upto goalBodiesSpec)

/-- 'prolixlaw15.GoalMany', WHERE WHAT IT READS IS OF BULK AT MOST 1048576: true; the input reads as it did. -/
def goalManyUptoRow : OpenClaim := { program := "ytokhiolimioicaa", sum := "5521ae0158414594ec5309f3fcd0f266e8f4a01f0cb87059a7f7c9f115a7dfca", func := "prolix/prolixlaw15.GoalMany", spec := "goalMany", unfollowed := true, recurses := true, plainKeys := false, apart := false, narrowed := true }
def GoalManyUptoSaid : Prop := goalManyUptoRow.holds Try.pinned (OpenSpec.upto goalManySpec)

end Rows
end Go.Proofs.Ytokhiolimioicaa
