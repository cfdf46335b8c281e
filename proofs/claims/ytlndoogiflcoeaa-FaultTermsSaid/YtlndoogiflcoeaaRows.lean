/-
  No cell of these rows narrows 'for every input' (looked for: loops, veiled, ifaces, maps, wideKeys, modest, calm, conditions, laid).
  DERIVED. THE GIVEN ROWS OF THIS SEAT. 6 by the template 'for every input the law returns true; each argument reads behind the call as it read before'; 0 by the template 'total and deterministic' (their statements: YtlndoogiflcoeaaTotals.lean).
  GIVEN WITH THE SEED: the statements are not yours to turn. If you find one false, say at which input.
  Laid BY PROGRAM, IN A SANDBOX (cutbox-rows.mjs): the forced cells as the released guide's own fill.sh prints them over the translation 0e51b820401cf811… (all of the seat's roots in one cut). By AI agents, Wed Nov 11 2026. No macro, syntax, notation, axiom, sorry.
-/
import Derived.Test.YtlndoogiflcoeaaChecked
import GoSem.Claim
import GoSem.ClaimJoined
import GoSem.ClaimMapViews
import Derived.JoinedTies
import Derived.KernelRfl
namespace Go.Proofs.Ytlndoogiflcoeaa
/- THE CELL 'sum', in the pinned program and in every row, IS THE sha256 OF THE DUMP (.gsa) THAT YtlndoogiflcoeaaProg.lean LOADS. Nothing in Lean hashes anything: it is a label: what it is worth is what the hold of that sum in a sandbox is worth. -/
noncomputable def Try.pinned : Pinned := { name := "ytlndoogiflcoeaa", sum := "0e51b820401cf81116c20228042bc624f63e46bd448bc06a782c7c3d3f14b48a", checked := Try.checked }
namespace Rows
def none {H : Type} : Left H := { results := [], args := [] }

/-- 'prolixlaw13.FaultTerms': WHATEVER THE INPUT: true; the input reads as it did. -/
def faultTermsSpec : ChangeSpec := { name := "faultTerms", fn := fun _ => fun
  | [d] => { results := [.lit (.bool true)], args := [d] }
  | _ => none }
def faultTermsRow : OpenClaim := { program := "ytlndoogiflcoeaa", sum := "0e51b820401cf81116c20228042bc624f63e46bd448bc06a782c7c3d3f14b48a", func := "prolix/prolixlaw13.FaultTerms", spec := "faultTerms", recurses := true, apart := false }
def FaultTermsSaid : Prop := faultTermsRow.holds Try.pinned (OpenSpec.ofChange faultTermsSpec)

/-- ITS FALSE NEIGHBOUR: 'it returns false'. Refute it at one input. -/
def faultTermsWrong : ChangeSpec := { name := "faultTerms", fn := fun _ => fun
  | [d] => { results := [.lit (.bool false)], args := [d] }
  | _ => none }
def FaultTermsWrongFalsely : Prop := faultTermsRow.holds Try.pinned (OpenSpec.ofChange faultTermsWrong)

/-- 'prolixlaw13.FaultIndicators': WHATEVER THE INPUT: true; the input reads as it did. -/
def faultIndicatorsSpec : ChangeSpec := { name := "faultIndicators", fn := fun _ => fun
  | [d1, d2] => { results := [.lit (.bool true)], args := [d1, d2] }
  | _ => none }
def faultIndicatorsRow : OpenClaim := { program := "ytlndoogiflcoeaa", sum := "0e51b820401cf81116c20228042bc624f63e46bd448bc06a782c7c3d3f14b48a", func := "prolix/prolixlaw13.FaultIndicators", spec := "faultIndicators", recurses := true, apart := false }
def FaultIndicatorsSaid : Prop := faultIndicatorsRow.holds Try.pinned (OpenSpec.ofChange faultIndicatorsSpec)

/-- ITS FALSE NEIGHBOUR: 'it returns false'. Refute it at one input. -/
def faultIndicatorsWrong : ChangeSpec := { name := "faultIndicators", fn := fun _ => fun
  | [d1, d2] => { results := [.lit (.bool false)], args := [d1, d2] }
  | _ => none }
def FaultIndicatorsWrongFalsely : Prop := faultIndicatorsRow.holds Try.pinned (OpenSpec.ofChange faultIndicatorsWrong)

/-- 'prolixlaw18.CodeChecks': WHATEVER THE INPUT: true; the input reads as it did. -/
def codeChecksSpec : ChangeSpec := { name := "codeChecks", fn := fun _ => fun
  | [d1, d2] => { results := [.lit (.bool true)], args := [d1, d2] }
  | _ => none }
def codeChecksRow : OpenClaim := { program := "ytlndoogiflcoeaa", sum := "0e51b820401cf81116c20228042bc624f63e46bd448bc06a782c7c3d3f14b48a", func := "prolix/prolixlaw18.CodeChecks", spec := "codeChecks", unfollowed := true, recurses := true, apart := false }
def CodeChecksSaid : Prop := codeChecksRow.holds Try.pinned (OpenSpec.ofChange codeChecksSpec)

/-- ITS FALSE NEIGHBOUR: 'it returns false'. Refute it at one input. -/
def codeChecksWrong : ChangeSpec := { name := "codeChecks", fn := fun _ => fun
  | [d1, d2] => { results := [.lit (.bool false)], args := [d1, d2] }
  | _ => none }
def CodeChecksWrongFalsely : Prop := codeChecksRow.holds Try.pinned (OpenSpec.ofChange codeChecksWrong)

/-- 'prolixlaw18.CodeParts': WHATEVER THE INPUT: true; the input reads as it did. -/
def codePartsSpec : ChangeSpec := { name := "codeParts", fn := fun _ => fun
  | [d1, d2] => { results := [.lit (.bool true)], args := [d1, d2] }
  | _ => none }
def codePartsRow : OpenClaim := { program := "ytlndoogiflcoeaa", sum := "0e51b820401cf81116c20228042bc624f63e46bd448bc06a782c7c3d3f14b48a", func := "prolix/prolixlaw18.CodeParts", spec := "codeParts", unfollowed := true, recurses := true, apart := false }
def CodePartsSaid : Prop := codePartsRow.holds Try.pinned (OpenSpec.ofChange codePartsSpec)

/-- ITS FALSE NEIGHBOUR: 'it returns false'. Refute it at one input. -/
def codePartsWrong : ChangeSpec := { name := "codeParts", fn := fun _ => fun
  | [d1, d2] => { results := [.lit (.bool false)], args := [d1, d2] }
  | _ => none }
def CodePartsWrongFalsely : Prop := codePartsRow.holds Try.pinned (OpenSpec.ofChange codePartsWrong)

/-- 'prolixlaw18.CodeSkips': WHATEVER THE INPUT: true; the input reads as it did. -/
def codeSkipsSpec : ChangeSpec := { name := "codeSkips", fn := fun _ => fun
  | [d1, d2] => { results := [.lit (.bool true)], args := [d1, d2] }
  | _ => none }
def codeSkipsRow : OpenClaim := { program := "ytlndoogiflcoeaa", sum := "0e51b820401cf81116c20228042bc624f63e46bd448bc06a782c7c3d3f14b48a", func := "prolix/prolixlaw18.CodeSkips", spec := "codeSkips", unfollowed := true, recurses := true, apart := false }
def CodeSkipsSaid : Prop := codeSkipsRow.holds Try.pinned (OpenSpec.ofChange codeSkipsSpec)

/-- ITS FALSE NEIGHBOUR: 'it returns false'. Refute it at one input. -/
def codeSkipsWrong : ChangeSpec := { name := "codeSkips", fn := fun _ => fun
  | [d1, d2] => { results := [.lit (.bool false)], args := [d1, d2] }
  | _ => none }
def CodeSkipsWrongFalsely : Prop := codeSkipsRow.holds Try.pinned (OpenSpec.ofChange codeSkipsWrong)

/-- 'prolixlaw13.FaultApart': WHATEVER THE INPUT: true; the input reads as it did. -/
def faultApartSpec : ChangeSpec := { name := "faultApart", fn := fun _ => fun
  | [d1, d2] => { results := [.lit (.bool true)], args := [d1, d2] }
  | _ => none }
def faultApartRow : OpenClaim := { program := "ytlndoogiflcoeaa", sum := "0e51b820401cf81116c20228042bc624f63e46bd448bc06a782c7c3d3f14b48a", func := "prolix/prolixlaw13.FaultApart", spec := "faultApart", inPlace := ["internal/bytealg.abigen_runtime_cmpstring"], unfollowed := true, recurses := true, apart := false }
def FaultApartSaid : Prop := faultApartRow.holds Try.pinned (OpenSpec.ofChange faultApartSpec)

/-- ITS FALSE NEIGHBOUR: 'it returns false'. Refute it at one input. -/
def faultApartWrong : ChangeSpec := { name := "faultApart", fn := fun _ => fun
  | [d1, d2] => { results := [.lit (.bool false)], args := [d1, d2] }
  | _ => none }
def FaultApartWrongFalsely : Prop := faultApartRow.holds Try.pinned (OpenSpec.ofChange faultApartWrong)

/- THE SECOND FORM. 'bulk': how many values and letters a reading holds, each counted each time it is reached (what is shared counts as often as it is met; a slice's spare places count too). A statement '..UptoSaid' is the law's where the arguments, and the package variables that the reading takes, are together of bulk at most 1048576: NARROWER than '..Said'. Prove '..Said' where nothing that the law and all that it calls make is longer than what came in: it says more and counts as full. Else prove '..UptoSaid'. A law counts once. -/
mutual
def uptoBulk {H : Type} : DataW H → Nat
  | .lit (.string bytes) => bytes.length + 1
  | .lit _ => 1
  | .nil => 1
  | .ptr d => uptoBulk d + 1
  | .slice elems spare => uptoBulkAll elems + uptoBulkAll spare + 1
  | .agg parts => uptoBulkAll parts + 1
  | .iface _ d => uptoBulk d + 1
  | .map entries => uptoBulkEntries entries + 1
  | .held _ => 1
def uptoBulkAll {H : Type} : List (DataW H) → Nat
  | [] => 0
  | d :: r => uptoBulk d + uptoBulkAll r
def uptoBulkEntries {H : Type} : List (Lit × DataW H) → Nat
  | [] => 0
  | x :: r => uptoBulkEntry x + uptoBulkEntries r
def uptoBulkEntry {H : Type} : Lit × DataW H → Nat
  | (.string bytes, d) => bytes.length + uptoBulk d + 1
  | (_, d) => uptoBulk d + 1
 end
def uptoSmall : (H : Type) → List (DataW H) → Bool := fun _ ds => decide (uptoBulkAll ds ≤ 1048576)
def OpenSpec.upto (s : _root_.Go.ChangeSpec) : _root_.Go.OpenSpec := { _root_.Go.OpenSpec.ofChange s with cond := some uptoSmall }

/-- 'prolixlaw13.FaultTerms', WHERE WHAT IT READS IS OF BULK AT MOST 1048576: true; the input reads as it did. -/
def faultTermsUptoRow : OpenClaim := { program := "ytlndoogiflcoeaa", sum := "0e51b820401cf81116c20228042bc624f63e46bd448bc06a782c7c3d3f14b48a", func := "prolix/prolixlaw13.FaultTerms", spec := "faultTerms", recurses := true, apart := false, narrowed := true }
def FaultTermsUptoSaid : Prop := faultTermsUptoRow.holds Try.pinned (OpenSpec.upto faultTermsSpec)

/-- 'prolixlaw13.FaultIndicators', WHERE WHAT IT READS IS OF BULK AT MOST 1048576: true; the input reads as it did. -/
def faultIndicatorsUptoRow : OpenClaim := { program := "ytlndoogiflcoeaa", sum := "0e51b820401cf81116c20228042bc624f63e46bd448bc06a782c7c3d3f14b48a", func := "prolix/prolixlaw13.FaultIndicators", spec := "faultIndicators", recurses := true, apart := false, narrowed := true }
def FaultIndicatorsUptoSaid : Prop := faultIndicatorsUptoRow.holds Try.pinned (OpenSpec.upto faultIndicatorsSpec)

/-- 'prolixlaw18.CodeChecks', WHERE WHAT IT READS IS OF BULK AT MOST 1048576: true; the input reads as it did. -/
def codeChecksUptoRow : OpenClaim := { program := "ytlndoogiflcoeaa", sum := "0e51b820401cf81116c20228042bc624f63e46bd448bc06a782c7c3d3f14b48a", func := "prolix/prolixlaw18.CodeChecks", spec := "codeChecks", unfollowed := true, recurses := true, apart := false, narrowed := true }
def CodeChecksUptoSaid : Prop := codeChecksUptoRow.holds Try.pinned (OpenSpec.upto codeChecksSpec)

/-- 'prolixlaw18.CodeParts', WHERE WHAT IT READS IS OF BULK AT MOST 1048576: true; the input reads as it did. -/
def codePartsUptoRow : OpenClaim := { program := "ytlndoogiflcoeaa", sum := "0e51b820401cf81116c20228042bc624f63e46bd448bc06a782c7c3d3f14b48a", func := "prolix/prolixlaw18.CodeParts", spec := "codeParts", unfollowed := true, recurses := true, apart := false, narrowed := true }
def CodePartsUptoSaid : Prop := codePartsUptoRow.holds Try.pinned (OpenSpec.upto codePartsSpec)

/-- 'prolixlaw18.CodeSkips', WHERE WHAT IT READS IS OF BULK AT MOST 1048576: true; the input reads as it did. -/
def codeSkipsUptoRow : OpenClaim := { program := "ytlndoogiflcoeaa", sum := "0e51b820401cf81116c20228042bc624f63e46bd448bc06a782c7c3d3f14b48a", func := "prolix/prolixlaw18.CodeSkips", spec := "codeSkips", unfollowed := true, recurses := true, apart := false, narrowed := true }
def CodeSkipsUptoSaid : Prop := codeSkipsUptoRow.holds Try.pinned (OpenSpec.upto codeSkipsSpec)

/-- 'prolixlaw13.FaultApart', WHERE WHAT IT READS IS OF BULK AT MOST 1048576: true; the input reads as it did. -/
def faultApartUptoRow : OpenClaim := { program := "ytlndoogiflcoeaa", sum := "0e51b820401cf81116c20228042bc624f63e46bd448bc06a782c7c3d3f14b48a", func := "prolix/prolixlaw13.FaultApart", spec := "faultApart", inPlace := ["internal/bytealg.abigen_runtime_cmpstring"], unfollowed := true, recurses := true, apart := false, narrowed := true }
def FaultApartUptoSaid : Prop := faultApartUptoRow.holds Try.pinned (OpenSpec.upto faultApartSpec)

end Rows
end Go.Proofs.Ytlndoogiflcoeaa
