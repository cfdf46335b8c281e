/-
  No cell of these rows narrows 'for every input' (looked for: loops, veiled, ifaces, maps, wideKeys, modest, calm, conditions, laid).
  DERIVED. THE GIVEN ROWS OF THIS SEAT. 11 by the template 'for every input the law returns true; each argument reads behind the call as it read before'; 0 by the template 'total and deterministic' (their statements: YtoklbeogmcdgaaaTotals.lean).
  GIVEN WITH THE SEED: the statements are not yours to turn. If you find one false, say at which input.
  Laid BY PROGRAM, IN A SANDBOX (cutbox-rows.mjs): the forced cells as the released guide's own fill.sh prints them over the translation 2b562b4fa1ab46a4… (all of the seat's roots in one cut). By AI agents, Wed Nov 11 2026. No macro, syntax, notation, axiom, sorry.
-/
import Derived.Test.YtoklbeogmcdgaaaChecked
import GoSem.Claim
import GoSem.ClaimJoined
import GoSem.ClaimMapViews
import Derived.JoinedTies
import Derived.KernelRfl
namespace Go.Proofs.Ytoklbeogmcdgaaa
/- THE CELL 'sum', in the pinned program and in every row, IS THE sha256 OF THE DUMP (.gsa) THAT YtoklbeogmcdgaaaProg.lean LOADS. Nothing in Lean hashes anything: it is a label: what it is worth is what the hold of that sum in a sandbox is worth. -/
noncomputable def Try.pinned : Pinned := { name := "ytoklbeogmcdgaaa", sum := "2b562b4fa1ab46a4ad3a2139a056370923e547a6dc76220e82c59f5c28b9ffe6", checked := Try.checked }
namespace Rows
def none {H : Type} : Left H := { results := [], args := [] }

/-- 'prolixlaw08.StoreCuts': WHATEVER THE INPUT: true; the input reads as it did. -/
def storeCutsSpec : ChangeSpec := { name := "storeCuts", fn := fun _ => fun
  | [d1, d2] => { results := [.lit (.bool true)], args := [d1, d2] }
  | _ => none }
def storeCutsRow : OpenClaim := { program := "ytoklbeogmcdgaaa", sum := "2b562b4fa1ab46a4ad3a2139a056370923e547a6dc76220e82c59f5c28b9ffe6", func := "prolix/prolixlaw08.StoreCuts", spec := "storeCuts", unfollowed := true, recurses := true, apart := false }
def StoreCutsSaid : Prop := storeCutsRow.holds Try.pinned (OpenSpec.ofChange storeCutsSpec)

/-- ITS FALSE NEIGHBOUR: 'it returns false'. Refute it at one input. -/
def storeCutsWrong : ChangeSpec := { name := "storeCuts", fn := fun _ => fun
  | [d1, d2] => { results := [.lit (.bool false)], args := [d1, d2] }
  | _ => none }
def StoreCutsWrongFalsely : Prop := storeCutsRow.holds Try.pinned (OpenSpec.ofChange storeCutsWrong)

/-- 'prolixlaw08.StoreUndoes': WHATEVER THE INPUT: true; the input reads as it did. -/
def storeUndoesSpec : ChangeSpec := { name := "storeUndoes", fn := fun _ => fun
  | [d1, d2] => { results := [.lit (.bool true)], args := [d1, d2] }
  | _ => none }
def storeUndoesRow : OpenClaim := { program := "ytoklbeogmcdgaaa", sum := "2b562b4fa1ab46a4ad3a2139a056370923e547a6dc76220e82c59f5c28b9ffe6", func := "prolix/prolixlaw08.StoreUndoes", spec := "storeUndoes", unfollowed := true, recurses := true, apart := false }
def StoreUndoesSaid : Prop := storeUndoesRow.holds Try.pinned (OpenSpec.ofChange storeUndoesSpec)

/-- ITS FALSE NEIGHBOUR: 'it returns false'. Refute it at one input. -/
def storeUndoesWrong : ChangeSpec := { name := "storeUndoes", fn := fun _ => fun
  | [d1, d2] => { results := [.lit (.bool false)], args := [d1, d2] }
  | _ => none }
def StoreUndoesWrongFalsely : Prop := storeUndoesRow.holds Try.pinned (OpenSpec.ofChange storeUndoesWrong)

/-- 'prolixlaw08.StoreBinds': WHATEVER THE INPUT: true; the input reads as it did. -/
def storeBindsSpec : ChangeSpec := { name := "storeBinds", fn := fun _ => fun
  | [d1, d2] => { results := [.lit (.bool true)], args := [d1, d2] }
  | _ => none }
def storeBindsRow : OpenClaim := { program := "ytoklbeogmcdgaaa", sum := "2b562b4fa1ab46a4ad3a2139a056370923e547a6dc76220e82c59f5c28b9ffe6", func := "prolix/prolixlaw08.StoreBinds", spec := "storeBinds", unfollowed := true, recurses := true, apart := false }
def StoreBindsSaid : Prop := storeBindsRow.holds Try.pinned (OpenSpec.ofChange storeBindsSpec)

/-- ITS FALSE NEIGHBOUR: 'it returns false'. Refute it at one input. -/
def storeBindsWrong : ChangeSpec := { name := "storeBinds", fn := fun _ => fun
  | [d1, d2] => { results := [.lit (.bool false)], args := [d1, d2] }
  | _ => none }
def StoreBindsWrongFalsely : Prop := storeBindsRow.holds Try.pinned (OpenSpec.ofChange storeBindsWrong)

/-- 'prolixlaw08.StorePlays': WHATEVER THE INPUT: true; the input reads as it did. -/
def storePlaysSpec : ChangeSpec := { name := "storePlays", fn := fun _ => fun
  | [d1, d2] => { results := [.lit (.bool true)], args := [d1, d2] }
  | _ => none }
def storePlaysRow : OpenClaim := { program := "ytoklbeogmcdgaaa", sum := "2b562b4fa1ab46a4ad3a2139a056370923e547a6dc76220e82c59f5c28b9ffe6", func := "prolix/prolixlaw08.StorePlays", spec := "storePlays", unfollowed := true, recurses := true, apart := false }
def StorePlaysSaid : Prop := storePlaysRow.holds Try.pinned (OpenSpec.ofChange storePlaysSpec)

/-- ITS FALSE NEIGHBOUR: 'it returns false'. Refute it at one input. -/
def storePlaysWrong : ChangeSpec := { name := "storePlays", fn := fun _ => fun
  | [d1, d2] => { results := [.lit (.bool false)], args := [d1, d2] }
  | _ => none }
def StorePlaysWrongFalsely : Prop := storePlaysRow.holds Try.pinned (OpenSpec.ofChange storePlaysWrong)

/-- 'prolixlaw11.CopyStores': WHATEVER THE INPUT: true; the input reads as it did. -/
def copyStoresSpec : ChangeSpec := { name := "copyStores", fn := fun _ => fun
  | [d] => { results := [.lit (.bool true)], args := [d] }
  | _ => none }
def copyStoresRow : OpenClaim := { program := "ytoklbeogmcdgaaa", sum := "2b562b4fa1ab46a4ad3a2139a056370923e547a6dc76220e82c59f5c28b9ffe6", func := "prolix/prolixlaw11.CopyStores", spec := "copyStores", inPlace := ["internal/bytealg.abigen_runtime_cmpstring"], unfollowed := true, recurses := true, apart := false }
def CopyStoresSaid : Prop := copyStoresRow.holds Try.pinned (OpenSpec.ofChange copyStoresSpec)

/-- ITS FALSE NEIGHBOUR: 'it returns false'. Refute it at one input. -/
def copyStoresWrong : ChangeSpec := { name := "copyStores", fn := fun _ => fun
  | [d] => { results := [.lit (.bool false)], args := [d] }
  | _ => none }
def CopyStoresWrongFalsely : Prop := copyStoresRow.holds Try.pinned (OpenSpec.ofChange copyStoresWrong)

/-- 'prolixlaw09.UnifySame': WHATEVER THE INPUT: true; the input reads as it did. -/
def unifySameSpec : ChangeSpec := { name := "unifySame", fn := fun _ => fun
  | [d] => { results := [.lit (.bool true)], args := [d] }
  | _ => none }
def unifySameRow : OpenClaim := { program := "ytoklbeogmcdgaaa", sum := "2b562b4fa1ab46a4ad3a2139a056370923e547a6dc76220e82c59f5c28b9ffe6", func := "prolix/prolixlaw09.UnifySame", spec := "unifySame", unfollowed := true, recurses := true, apart := false }
def UnifySameSaid : Prop := unifySameRow.holds Try.pinned (OpenSpec.ofChange unifySameSpec)

/-- ITS FALSE NEIGHBOUR: 'it returns false'. Refute it at one input. -/
def unifySameWrong : ChangeSpec := { name := "unifySame", fn := fun _ => fun
  | [d] => { results := [.lit (.bool false)], args := [d] }
  | _ => none }
def UnifySameWrongFalsely : Prop := unifySameRow.holds Try.pinned (OpenSpec.ofChange unifySameWrong)

/-- 'prolixlaw09.UnifySafe': WHATEVER THE INPUT: true; the input reads as it did. -/
def unifySafeSpec : ChangeSpec := { name := "unifySafe", fn := fun _ => fun
  | [d] => { results := [.lit (.bool true)], args := [d] }
  | _ => none }
def unifySafeRow : OpenClaim := { program := "ytoklbeogmcdgaaa", sum := "2b562b4fa1ab46a4ad3a2139a056370923e547a6dc76220e82c59f5c28b9ffe6", func := "prolix/prolixlaw09.UnifySafe", spec := "unifySafe", unfollowed := true, recurses := true, apart := false }
def UnifySafeSaid : Prop := unifySafeRow.holds Try.pinned (OpenSpec.ofChange unifySafeSpec)

/-- ITS FALSE NEIGHBOUR: 'it returns false'. Refute it at one input. -/
def unifySafeWrong : ChangeSpec := { name := "unifySafe", fn := fun _ => fun
  | [d] => { results := [.lit (.bool false)], args := [d] }
  | _ => none }
def UnifySafeWrongFalsely : Prop := unifySafeRow.holds Try.pinned (OpenSpec.ofChange unifySafeWrong)

/-- 'prolixlaw09.UnifyThree': WHATEVER THE INPUT: true; the input reads as it did. -/
def unifyThreeSpec : ChangeSpec := { name := "unifyThree", fn := fun _ => fun
  | [d1, d2] => { results := [.lit (.bool true)], args := [d1, d2] }
  | _ => none }
def unifyThreeRow : OpenClaim := { program := "ytoklbeogmcdgaaa", sum := "2b562b4fa1ab46a4ad3a2139a056370923e547a6dc76220e82c59f5c28b9ffe6", func := "prolix/prolixlaw09.UnifyThree", spec := "unifyThree", unfollowed := true, recurses := true, apart := false }
def UnifyThreeSaid : Prop := unifyThreeRow.holds Try.pinned (OpenSpec.ofChange unifyThreeSpec)

/-- ITS FALSE NEIGHBOUR: 'it returns false'. Refute it at one input. -/
def unifyThreeWrong : ChangeSpec := { name := "unifyThree", fn := fun _ => fun
  | [d1, d2] => { results := [.lit (.bool false)], args := [d1, d2] }
  | _ => none }
def UnifyThreeWrongFalsely : Prop := unifyThreeRow.holds Try.pinned (OpenSpec.ofChange unifyThreeWrong)

/-- 'prolixlaw09.UnifyPlays': WHATEVER THE INPUT: true; the input reads as it did. -/
def unifyPlaysSpec : ChangeSpec := { name := "unifyPlays", fn := fun _ => fun
  | [d] => { results := [.lit (.bool true)], args := [d] }
  | _ => none }
def unifyPlaysRow : OpenClaim := { program := "ytoklbeogmcdgaaa", sum := "2b562b4fa1ab46a4ad3a2139a056370923e547a6dc76220e82c59f5c28b9ffe6", func := "prolix/prolixlaw09.UnifyPlays", spec := "unifyPlays", unfollowed := true, recurses := true, apart := false }
def UnifyPlaysSaid : Prop := unifyPlaysRow.holds Try.pinned (OpenSpec.ofChange unifyPlaysSpec)

/-- ITS FALSE NEIGHBOUR: 'it returns false'. Refute it at one input. -/
def unifyPlaysWrong : ChangeSpec := { name := "unifyPlays", fn := fun _ => fun
  | [d] => { results := [.lit (.bool false)], args := [d] }
  | _ => none }
def UnifyPlaysWrongFalsely : Prop := unifyPlaysRow.holds Try.pinned (OpenSpec.ofChange unifyPlaysWrong)

/-- 'prolixlaw11.CopyPlays': WHATEVER THE INPUT: true; the input reads as it did. -/
def copyPlaysSpec : ChangeSpec := { name := "copyPlays", fn := fun _ => fun
  | [d] => { results := [.lit (.bool true)], args := [d] }
  | _ => none }
def copyPlaysRow : OpenClaim := { program := "ytoklbeogmcdgaaa", sum := "2b562b4fa1ab46a4ad3a2139a056370923e547a6dc76220e82c59f5c28b9ffe6", func := "prolix/prolixlaw11.CopyPlays", spec := "copyPlays", inPlace := ["internal/bytealg.abigen_runtime_cmpstring"], unfollowed := true, recurses := true, apart := false }
def CopyPlaysSaid : Prop := copyPlaysRow.holds Try.pinned (OpenSpec.ofChange copyPlaysSpec)

/-- ITS FALSE NEIGHBOUR: 'it returns false'. Refute it at one input. -/
def copyPlaysWrong : ChangeSpec := { name := "copyPlays", fn := fun _ => fun
  | [d] => { results := [.lit (.bool false)], args := [d] }
  | _ => none }
def CopyPlaysWrongFalsely : Prop := copyPlaysRow.holds Try.pinned (OpenSpec.ofChange copyPlaysWrong)

/-- 'prolixlaw09.UnifyHas': WHATEVER THE INPUT: true; the input reads as it did. -/
def unifyHasSpec : ChangeSpec := { name := "unifyHas", fn := fun _ => fun
  | [d1, d2] => { results := [.lit (.bool true)], args := [d1, d2] }
  | _ => none }
def unifyHasRow : OpenClaim := { program := "ytoklbeogmcdgaaa", sum := "2b562b4fa1ab46a4ad3a2139a056370923e547a6dc76220e82c59f5c28b9ffe6", func := "prolix/prolixlaw09.UnifyHas", spec := "unifyHas", unfollowed := true, recurses := true, apart := false }
def UnifyHasSaid : Prop := unifyHasRow.holds Try.pinned (OpenSpec.ofChange unifyHasSpec)

/-- ITS FALSE NEIGHBOUR: 'it returns false'. Refute it at one input. -/
def unifyHasWrong : ChangeSpec := { name := "unifyHas", fn := fun _ => fun
  | [d1, d2] => { results := [.lit (.bool false)], args := [d1, d2] }
  | _ => none }
def UnifyHasWrongFalsely : Prop := unifyHasRow.holds Try.pinned (OpenSpec.ofChange unifyHasWrong)

/- THE SECOND FORM. 'bulk': how many values and letters a reading holds, each counted each time it is reached (what is shared counts as often as it is met; a slice's spare places count too). A statement '..UptoSaid' is the law's where the arguments, and the package variables that the reading takes, are together of bulk at most 1048576: NARROWER than '..Said'. Prove '..Said' where nothing that the law and all that it calls make is longer than what came in: it says more and counts as full. Else prove '..UptoSaid'. A law counts once. -/
mutual
def uptoBulk {H : Type} : DataW H → Nat
  | .lit (.string bytes) => bytes.length + 1
  | .lit _ => 1
  | .nil => 1
  | .ptr d => uptoBulk d + 1
  | .slice elems spare => uptoBulkAll elems + uptoBulkAll spare + 1
  | .agg parts => uptoBulkAll parts + 1
  | .iface _ d => uptoBulk d + 1
  | .map entries => uptoBulkEntries entries + 1
  | .held _ => 1
def uptoBulkAll {H : Type} : List (DataW H) → Nat
  | [] => 0
  | d :: r => uptoBulk d + uptoBulkAll r
def uptoBulkEntries {H : Type} : List (Lit × DataW H) → Nat
  | [] => 0
  | x :: r => uptoBulkEntry x + uptoBulkEntries r
def uptoBulkEntry {H : Type} : Lit × DataW H → Nat
  | (.string bytes, d) => bytes.length + uptoBulk d + 1
  | (_, d) => uptoBulk d + 1
 end
def uptoSmall : (H : Type) → List (DataW H) → Bool := fun _ ds => decide (uptoBulkAll ds ≤ 1048576)
def OpenSpec.upto (s : _root_.Go.ChangeSpec) : _root_.Go.OpenSpec := { _root_.Go.OpenSpec.ofChange s with cond := some uptoSmall }

/-- 'prolixlaw08.StoreCuts', WHERE WHAT IT READS IS OF BULK AT MOST 1048576: true; the input reads as it did. -/
def storeCutsUptoRow : OpenClaim := { program := "ytoklbeogmcdgaaa", sum := "2b562b4fa1ab46a4ad3a2139a056370923e547a6dc76220e82c59f5c28b9ffe6", func := "prolix/prolixlaw08.StoreCuts", spec := "storeCuts", unfollowed := true, recurses := true, apart := false, narrowed := true }
def StoreCutsUptoSaid : Prop := storeCutsUptoRow.holds Try.pinned (OpenSpec.upto storeCutsSpec)

/-- 'prolixlaw08.StoreUndoes', WHERE WHAT IT READS IS OF BULK AT MOST 1048576: true; the input reads as it did. -/
def storeUndoesUptoRow : OpenClaim := { program := "ytoklbeogmcdgaaa", sum := "2b562b4fa1ab46a4ad3a2139a056370923e547a6dc76220e82c59f5c28b9ffe6", func := "prolix/prolixlaw08.StoreUndoes", spec := "storeUndoes", unfollowed := true, recurses := true, apart := false, narrowed := true }
def StoreUndoesUptoSaid : Prop := storeUndoesUptoRow.holds Try.pinned (OpenSpec.upto storeUndoesSpec)

/-- 'prolixlaw08.StoreBinds', WHERE WHAT IT READS IS OF BULK AT MOST 1048576: true; the input reads as it did. -/
def storeBindsUptoRow : OpenClaim := { program := "ytoklbeogmcdgaaa", sum := "2b562b4fa1ab46a4ad3a2139a056370923e547a6dc76220e82c59f5c28b9ffe6", func := "prolix/prolixlaw08.StoreBinds", spec := "storeBinds", unfollowed := true, recurses := true, apart := false, narrowed := true }
def StoreBindsUptoSaid : Prop := storeBindsUptoRow.holds Try.pinned (OpenSpec.upto storeBindsSpec)

/-- 'prolixlaw08.StorePlays', WHERE WHAT IT READS IS OF BULK AT MOST 1048576: true; the input reads as it did. -/
def storePlaysUptoRow : OpenClaim := { program := "ytoklbeogmcdgaaa", sum := "2b562b4fa1ab46a4ad3a2139a056370923e547a6dc76220e82c59f5c28b9ffe6", func := "prolix/prolixlaw08.StorePlays", spec := "storePlays", unfollowed := true, recurses := true, apart := false, narrowed := true }
def StorePlaysUptoSaid : Prop := storePlaysUptoRow.holds Try.pinned (OpenSpec.upto storePlaysSpec)

/-- 'prolixlaw11.CopyStores', WHERE WHAT IT READS IS OF BULK AT MOST 1048576: true; the input reads as it did. -/
def copyStoresUptoRow : OpenClaim := { program := "ytoklbeogmcdgaaa", sum := "2b562b4fa1ab46a4ad3a2139a056370923e547a6dc76220e82c59f5c28b9ffe6", func := "prolix/prolixlaw11.CopyStores", spec := "copyStores", inPlace := ["internal/bytealg.abigen_runtime_cmpstring"], unfollowed := true, recurses := true, apart := false, narrowed := true }
def CopyStoresUptoSaid : Prop := copyStoresUptoRow.holds Try.pinned (OpenSpec.upto copyStoresSpec)

/-- 'prolixlaw09.UnifySame', WHERE WHAT IT READS IS OF BULK AT MOST 1048576: true; the input reads as it did. -/
def unifySameUptoRow : OpenClaim := { program := "ytoklbeogmcdgaaa", sum := "2b562b4fa1ab46a4ad3a2139a056370923e547a6dc76220e82c59f5c28b9ffe6", func := "prolix/prolixlaw09.UnifySame", spec := "unifySame", unfollowed := true, recurses := true, apart := false, narrowed := true }
def UnifySameUptoSaid : Prop := unifySameUptoRow.holds Try.pinned (OpenSpec.upto unifySameSpec)

/-- 'prolixlaw09.UnifySafe', WHERE WHAT IT READS IS OF BULK AT MOST 1048576: true; the input reads as it did. -/
def unifySafeUptoRow : OpenClaim := { program := "ytoklbeogmcdgaaa", sum := "2b562b4fa1ab46a4ad3a2139a056370923e547a6dc76220e82c59f5c28b9ffe6", func := "prolix/prolixlaw09.UnifySafe", spec := "unifySafe", unfollowed := true, recurses := true, apart := false, narrowed := true }
def UnifySafeUptoSaid : Prop := unifySafeUptoRow.holds Try.pinned (OpenSpec.upto unifySafeSpec)

/-- 'prolixlaw09.UnifyThree', WHERE WHAT IT READS IS OF BULK AT MOST 1048576: true; the input reads as it did. -/
def unifyThreeUptoRow : OpenClaim := { program := "ytoklbeogmcdgaaa", sum := "2b562b4fa1ab46a4ad3a2139a056370923e547a6dc76220e82c59f5c28b9ffe6", func := "prolix/prolixlaw09.UnifyThree", spec := "unifyThree", unfollowed := true, recurses := true, apart := false, narrowed := true }
def UnifyThreeUptoSaid : Prop := unifyThreeUptoRow.holds Try.pinned (OpenSpec.upto unifyThreeSpec)

/-- 'prolixlaw09.UnifyPlays', WHERE WHAT IT READS IS OF BULK AT MOST 1048576: true; the input reads as it did. -/
def unifyPlaysUptoRow : OpenClaim := { program := "ytoklbeogmcdgaaa", sum := "2b562b4fa1ab46a4ad3a2139a056370923e547a6dc76220e82c59f5c28b9ffe6", func := "prolix/prolixlaw09.UnifyPlays", spec := "unifyPlays", unfollowed := true, recurses := true, apart := false, narrowed := true }
def UnifyPlaysUptoSaid : Prop := unifyPlaysUptoRow.holds Try.pinned (OpenSpec.upto unifyPlaysSpec)

/-- 'prolixlaw11.CopyPlays', WHERE WHAT IT READS IS OF BULK AT MOST 1048576: true; the input reads as it did. -/
def copyPlaysUptoRow : OpenClaim := { program := "ytoklbeogmcdgaaa", sum := "2b562b4fa1ab46a4ad3a2139a056370923e547a6dc76220e82c59f5c28b9ffe6", func := "prolix/prolixlaw11.CopyPlays", spec := "copyPlays", inPlace := ["internal/bytealg.abigen_runtime_cmpstring"], unfollowed := true, recurses := true, apart := false, narrowed := true }
def CopyPlaysUptoSaid : Prop := copyPlaysUptoRow.holds Try.pinned (OpenSpec.upto copyPlaysSpec)

/-- 'prolixlaw09.UnifyHas', WHERE WHAT IT READS IS OF BULK AT MOST 1048576: true; the input reads as it did. -/
def unifyHasUptoRow : OpenClaim := { program := "ytoklbeogmcdgaaa", sum := "2b562b4fa1ab46a4ad3a2139a056370923e547a6dc76220e82c59f5c28b9ffe6", func := "prolix/prolixlaw09.UnifyHas", spec := "unifyHas", unfollowed := true, recurses := true, apart := false, narrowed := true }
def UnifyHasUptoSaid : Prop := unifyHasUptoRow.holds Try.pinned (OpenSpec.upto unifyHasSpec)

end Rows
end Go.Proofs.Ytoklbeogmcdgaaa
