/-
  No cell of these rows narrows 'for every input' (looked for: loops, veiled, ifaces, maps, wideKeys, modest, calm, conditions, laid).
  DERIVED. THE GIVEN ROWS OF THIS SEAT. 9 by the template 'for every input the law returns true; each argument reads behind the call as it read before'; 0 by the template 'total and deterministic' (their statements: YtfeeincglijmjaaTotals.lean).
  GIVEN WITH THE SEED: the statements are not yours to turn. If you find one false, say at which input.
  Laid BY PROGRAM, IN A SANDBOX (cutbox-rows.mjs): the forced cells as the released guide's own fill.sh prints them over the translation 4d84816dcd6c3e73… (all of the seat's roots in one cut). By AI agents, Wed Nov 11 2026. No macro, syntax, notation, axiom, sorry.
-/
import Derived.Test.YtfeeincglijmjaaChecked
import GoSem.Claim
import GoSem.ClaimJoined
import GoSem.ClaimMapViews
import Derived.JoinedTies
import Derived.KernelRfl
namespace Go.Proofs.Ytfeeincglijmjaa
/- THE CELL 'sum', in the pinned program and in every row, IS THE sha256 OF THE DUMP (.gsa) THAT YtfeeincglijmjaaProg.lean LOADS. Nothing in Lean hashes anything: it is a label: what it is worth is what the hold of that sum in a sandbox is worth. -/
noncomputable def Try.pinned : Pinned := { name := "ytfeeincglijmjaa", sum := "4d84816dcd6c3e731e0007cd3f9e0cb64e952de4cd2a1215e47c42a9c749b44f", checked := Try.checked }
namespace Rows
def none {H : Type} : Left H := { results := [], args := [] }

/-- 'bobstaylaw20.StateSyncs': WHATEVER THE INPUT: true; the input reads as it did. -/
def stateSyncsSpec : ChangeSpec := { name := "stateSyncs", fn := fun _ => fun
  | [d1, d2, d3, d4, d5] => { results := [.lit (.bool true)], args := [d1, d2, d3, d4, d5] }
  | _ => none }
def stateSyncsRow : OpenClaim := { program := "ytfeeincglijmjaa", sum := "4d84816dcd6c3e731e0007cd3f9e0cb64e952de4cd2a1215e47c42a9c749b44f", func := "bobstay/bobstaylaw20.StateSyncs", spec := "stateSyncs", unfollowed := true, recurses := true, apart := false }
def StateSyncsSaid : Prop := stateSyncsRow.holds Try.pinned (OpenSpec.ofChange stateSyncsSpec)

/-- ITS FALSE NEIGHBOUR: 'it returns false'. Refute it at one input. -/
def stateSyncsWrong : ChangeSpec := { name := "stateSyncs", fn := fun _ => fun
  | [d1, d2, d3, d4, d5] => { results := [.lit (.bool false)], args := [d1, d2, d3, d4, d5] }
  | _ => none }
def StateSyncsWrongFalsely : Prop := stateSyncsRow.holds Try.pinned (OpenSpec.ofChange stateSyncsWrong)

/-- 'bobstaylaw20.StateOnce': WHATEVER THE INPUT: true; the input reads as it did. -/
def stateOnceSpec : ChangeSpec := { name := "stateOnce", fn := fun _ => fun
  | [d1, d2, d3, d4] => { results := [.lit (.bool true)], args := [d1, d2, d3, d4] }
  | _ => none }
def stateOnceRow : OpenClaim := { program := "ytfeeincglijmjaa", sum := "4d84816dcd6c3e731e0007cd3f9e0cb64e952de4cd2a1215e47c42a9c749b44f", func := "bobstay/bobstaylaw20.StateOnce", spec := "stateOnce", unfollowed := true, recurses := true, apart := false }
def StateOnceSaid : Prop := stateOnceRow.holds Try.pinned (OpenSpec.ofChange stateOnceSpec)

/-- ITS FALSE NEIGHBOUR: 'it returns false'. Refute it at one input. -/
def stateOnceWrong : ChangeSpec := { name := "stateOnce", fn := fun _ => fun
  | [d1, d2, d3, d4] => { results := [.lit (.bool false)], args := [d1, d2, d3, d4] }
  | _ => none }
def StateOnceWrongFalsely : Prop := stateOnceRow.holds Try.pinned (OpenSpec.ofChange stateOnceWrong)

/-- 'bobstaylaw19.DiffTells': WHATEVER THE INPUT: true; the input reads as it did. -/
def diffTellsSpec : ChangeSpec := { name := "diffTells", fn := fun _ => fun
  | [d1, d2, d3] => { results := [.lit (.bool true)], args := [d1, d2, d3] }
  | _ => none }
def diffTellsRow : OpenClaim := { program := "ytfeeincglijmjaa", sum := "4d84816dcd6c3e731e0007cd3f9e0cb64e952de4cd2a1215e47c42a9c749b44f", func := "bobstay/bobstaylaw19.DiffTells", spec := "diffTells", unfollowed := true, recurses := true, apart := false }
def DiffTellsSaid : Prop := diffTellsRow.holds Try.pinned (OpenSpec.ofChange diffTellsSpec)

/-- ITS FALSE NEIGHBOUR: 'it returns false'. Refute it at one input. -/
def diffTellsWrong : ChangeSpec := { name := "diffTells", fn := fun _ => fun
  | [d1, d2, d3] => { results := [.lit (.bool false)], args := [d1, d2, d3] }
  | _ => none }
def DiffTellsWrongFalsely : Prop := diffTellsRow.holds Try.pinned (OpenSpec.ofChange diffTellsWrong)

/-- 'bobstaylaw19.DiffMakes': WHATEVER THE INPUT: true; the input reads as it did. -/
def diffMakesSpec : ChangeSpec := { name := "diffMakes", fn := fun _ => fun
  | [d1, d2] => { results := [.lit (.bool true)], args := [d1, d2] }
  | _ => none }
def diffMakesRow : OpenClaim := { program := "ytfeeincglijmjaa", sum := "4d84816dcd6c3e731e0007cd3f9e0cb64e952de4cd2a1215e47c42a9c749b44f", func := "bobstay/bobstaylaw19.DiffMakes", spec := "diffMakes", unfollowed := true, recurses := true, apart := false }
def DiffMakesSaid : Prop := diffMakesRow.holds Try.pinned (OpenSpec.ofChange diffMakesSpec)

/-- ITS FALSE NEIGHBOUR: 'it returns false'. Refute it at one input. -/
def diffMakesWrong : ChangeSpec := { name := "diffMakes", fn := fun _ => fun
  | [d1, d2] => { results := [.lit (.bool false)], args := [d1, d2] }
  | _ => none }
def DiffMakesWrongFalsely : Prop := diffMakesRow.holds Try.pinned (OpenSpec.ofChange diffMakesWrong)

/-- 'bobstaylaw19.DiffParts': WHATEVER THE INPUT: true; the input reads as it did. -/
def diffPartsSpec : ChangeSpec := { name := "diffParts", fn := fun _ => fun
  | [d1, d2, d3, d4, d5] => { results := [.lit (.bool true)], args := [d1, d2, d3, d4, d5] }
  | _ => none }
def diffPartsRow : OpenClaim := { program := "ytfeeincglijmjaa", sum := "4d84816dcd6c3e731e0007cd3f9e0cb64e952de4cd2a1215e47c42a9c749b44f", func := "bobstay/bobstaylaw19.DiffParts", spec := "diffParts", unfollowed := true, recurses := true, apart := false }
def DiffPartsSaid : Prop := diffPartsRow.holds Try.pinned (OpenSpec.ofChange diffPartsSpec)

/-- ITS FALSE NEIGHBOUR: 'it returns false'. Refute it at one input. -/
def diffPartsWrong : ChangeSpec := { name := "diffParts", fn := fun _ => fun
  | [d1, d2, d3, d4, d5] => { results := [.lit (.bool false)], args := [d1, d2, d3, d4, d5] }
  | _ => none }
def DiffPartsWrongFalsely : Prop := diffPartsRow.holds Try.pinned (OpenSpec.ofChange diffPartsWrong)

/-- 'bobstaylaw19.DiffOther': WHATEVER THE INPUT: true; the input reads as it did. -/
def diffOtherSpec : ChangeSpec := { name := "diffOther", fn := fun _ => fun
  | [d1, d2, d3] => { results := [.lit (.bool true)], args := [d1, d2, d3] }
  | _ => none }
def diffOtherRow : OpenClaim := { program := "ytfeeincglijmjaa", sum := "4d84816dcd6c3e731e0007cd3f9e0cb64e952de4cd2a1215e47c42a9c749b44f", func := "bobstay/bobstaylaw19.DiffOther", spec := "diffOther", unfollowed := true, recurses := true, apart := false }
def DiffOtherSaid : Prop := diffOtherRow.holds Try.pinned (OpenSpec.ofChange diffOtherSpec)

/-- ITS FALSE NEIGHBOUR: 'it returns false'. Refute it at one input. -/
def diffOtherWrong : ChangeSpec := { name := "diffOther", fn := fun _ => fun
  | [d1, d2, d3] => { results := [.lit (.bool false)], args := [d1, d2, d3] }
  | _ => none }
def DiffOtherWrongFalsely : Prop := diffOtherRow.holds Try.pinned (OpenSpec.ofChange diffOtherWrong)

/-- 'bobstaylaw19.DiffOwn': WHATEVER THE INPUT: true; the input reads as it did. -/
def diffOwnSpec : ChangeSpec := { name := "diffOwn", fn := fun _ => fun
  | [d1, d2, d3] => { results := [.lit (.bool true)], args := [d1, d2, d3] }
  | _ => none }
def diffOwnRow : OpenClaim := { program := "ytfeeincglijmjaa", sum := "4d84816dcd6c3e731e0007cd3f9e0cb64e952de4cd2a1215e47c42a9c749b44f", func := "bobstay/bobstaylaw19.DiffOwn", spec := "diffOwn", unfollowed := true, recurses := true, apart := false }
def DiffOwnSaid : Prop := diffOwnRow.holds Try.pinned (OpenSpec.ofChange diffOwnSpec)

/-- ITS FALSE NEIGHBOUR: 'it returns false'. Refute it at one input. -/
def diffOwnWrong : ChangeSpec := { name := "diffOwn", fn := fun _ => fun
  | [d1, d2, d3] => { results := [.lit (.bool false)], args := [d1, d2, d3] }
  | _ => none }
def DiffOwnWrongFalsely : Prop := diffOwnRow.holds Try.pinned (OpenSpec.ofChange diffOwnWrong)

/-- 'bobstaylaw20.StateTells': WHATEVER THE INPUT: true; the input reads as it did. -/
def stateTellsSpec : ChangeSpec := { name := "stateTells", fn := fun _ => fun
  | [d1, d2, d3, d4] => { results := [.lit (.bool true)], args := [d1, d2, d3, d4] }
  | _ => none }
def stateTellsRow : OpenClaim := { program := "ytfeeincglijmjaa", sum := "4d84816dcd6c3e731e0007cd3f9e0cb64e952de4cd2a1215e47c42a9c749b44f", func := "bobstay/bobstaylaw20.StateTells", spec := "stateTells", unfollowed := true, recurses := true, apart := false }
def StateTellsSaid : Prop := stateTellsRow.holds Try.pinned (OpenSpec.ofChange stateTellsSpec)

/-- ITS FALSE NEIGHBOUR: 'it returns false'. Refute it at one input. -/
def stateTellsWrong : ChangeSpec := { name := "stateTells", fn := fun _ => fun
  | [d1, d2, d3, d4] => { results := [.lit (.bool false)], args := [d1, d2, d3, d4] }
  | _ => none }
def StateTellsWrongFalsely : Prop := stateTellsRow.holds Try.pinned (OpenSpec.ofChange stateTellsWrong)

/-- 'bobstaylaw20.StateGrows': WHATEVER THE INPUT: true; the input reads as it did. -/
def stateGrowsSpec : ChangeSpec := { name := "stateGrows", fn := fun _ => fun
  | [d1, d2, d3, d4] => { results := [.lit (.bool true)], args := [d1, d2, d3, d4] }
  | _ => none }
def stateGrowsRow : OpenClaim := { program := "ytfeeincglijmjaa", sum := "4d84816dcd6c3e731e0007cd3f9e0cb64e952de4cd2a1215e47c42a9c749b44f", func := "bobstay/bobstaylaw20.StateGrows", spec := "stateGrows", unfollowed := true, recurses := true, apart := false }
def StateGrowsSaid : Prop := stateGrowsRow.holds Try.pinned (OpenSpec.ofChange stateGrowsSpec)

/-- ITS FALSE NEIGHBOUR: 'it returns false'. Refute it at one input. -/
def stateGrowsWrong : ChangeSpec := { name := "stateGrows", fn := fun _ => fun
  | [d1, d2, d3, d4] => { results := [.lit (.bool false)], args := [d1, d2, d3, d4] }
  | _ => none }
def StateGrowsWrongFalsely : Prop := stateGrowsRow.holds Try.pinned (OpenSpec.ofChange stateGrowsWrong)

/- THE SECOND FORM. 'bulk': how many values and letters a reading holds, each counted each time it is reached (what is shared counts as often as it is met; a slice's spare places count too). A statement '..UptoSaid' is the law's where the arguments, and the package variables that the reading takes, are together of bulk at most 1048576: NARROWER than '..Said'. Prove '..Said' where nothing that the law and all that it calls make is longer than what came in: it says more and counts as full. Else prove '..UptoSaid'. A law counts once. -/
mutual
def uptoBulk {H : Type} : DataW H → Nat
  | .lit (.string bytes) => bytes.length + 1
  | .lit _ => 1
  | .nil => 1
  | .ptr d => uptoBulk d + 1
  | .slice elems spare => uptoBulkAll elems + uptoBulkAll spare + 1
  | .agg parts => uptoBulkAll parts + 1
  | .iface _ d => uptoBulk d + 1
  | .map entries => uptoBulkEntries entries + 1
  | .held _ => 1
def uptoBulkAll {H : Type} : List (DataW H) → Nat
  | [] => 0
  | d :: r => uptoBulk d + uptoBulkAll r
def uptoBulkEntries {H : Type} : List (Lit × DataW H) → Nat
  | [] => 0
  | x :: r => uptoBulkEntry x + uptoBulkEntries r
def uptoBulkEntry {H : Type} : Lit × DataW H → Nat
  | (.string bytes, d) => bytes.length + uptoBulk d + 1
  | (_, d) => uptoBulk d + 1
 end
def uptoSmall : (H : Type) → List (DataW H) → Bool := fun _ ds => decide (uptoBulkAll ds ≤ 1048576)
def OpenSpec.upto (s : _root_.Go.ChangeSpec) : _root_.Go.OpenSpec := { _root_.Go.OpenSpec.ofChange s with cond := some uptoSmall }

/-- 'bobstaylaw20.StateSyncs', WHERE WHAT IT READS IS OF BULK AT MOST 1048576: true; the input reads as it did. -/
def stateSyncsUptoRow : OpenClaim := { program := "ytfeeincglijmjaa", sum := "4d84816dcd6c3e731e0007cd3f9e0cb64e952de4cd2a1215e47c42a9c749b44f", func := "bobstay/bobstaylaw20.StateSyncs", spec := "stateSyncs", unfollowed := true, recurses := true, apart := false, narrowed := true }
def StateSyncsUptoSaid : Prop := stateSyncsUptoRow.holds Try.pinned (OpenSpec.upto stateSyncsSpec)

/-- 'bobstaylaw20.StateOnce', WHERE WHAT IT READS IS OF BULK AT MOST 1048576: true; the input reads as it did. -/
def stateOnceUptoRow : OpenClaim := { program := "ytfeeincglijmjaa", sum := "4d84816dcd6c3e731e0007cd3f9e0cb64e952de4cd2a1215e47c42a9c749b44f", func := "bobstay/bobstaylaw20.StateOnce", spec := "stateOnce", unfollowed := true, recurses := true, apart := false, narrowed := true }
def StateOnceUptoSaid : Prop := stateOnceUptoRow.holds Try.pinned (OpenSpec.upto stateOnceSpec)

/-- 'bobstaylaw19.DiffTells', WHERE WHAT IT READS IS OF BULK AT MOST 1048576: true; the input reads as it did. -/
def diffTellsUptoRow : OpenClaim := { program := "ytfeeincglijmjaa", sum := "4d84816dcd6c3e731e0007cd3f9e0cb64e952de4cd2a1215e47c42a9c749b44f", func := "bobstay/bobstaylaw19.DiffTells", spec := "diffTells", unfollowed := true, recurses := true, apart := false, narrowed := true }
def DiffTellsUptoSaid : Prop := diffTellsUptoRow.holds Try.pinned (OpenSpec.upto diffTellsSpec)

/-- 'bobstaylaw19.DiffMakes', WHERE WHAT IT READS IS OF BULK AT MOST 1048576: true; the input reads as it did. -/
def diffMakesUptoRow : OpenClaim := { program := "ytfeeincglijmjaa", sum := "4d84816dcd6c3e731e0007cd3f9e0cb64e952de4cd2a1215e47c42a9c749b44f", func := "bobstay/bobstaylaw19.DiffMakes", spec := "diffMakes", unfollowed := true, recurses := true, apart := false, narrowed := true }
def DiffMakesUptoSaid : Prop := diffMakesUptoRow.holds Try.pinned (OpenSpec.upto diffMakesSpec)

/-- 'bobstaylaw19.DiffParts', WHERE WHAT IT READS IS OF BULK AT MOST 1048576: true; the input reads as it did. -/
def diffPartsUptoRow : OpenClaim := { program := "ytfeeincglijmjaa", sum := "4d84816dcd6c3e731e0007cd3f9e0cb64e952de4cd2a1215e47c42a9c749b44f", func := "bobstay/bobstaylaw19.DiffParts", spec := "diffParts", unfollowed := true, recurses := true, apart := false, narrowed := true }
def DiffPartsUptoSaid : Prop := diffPartsUptoRow.holds Try.pinned (OpenSpec.upto diffPartsSpec)

/-- 'bobstaylaw19.DiffOther', WHERE WHAT IT READS IS OF BULK AT MOST 1048576: true; the input reads as it did. -/
def diffOtherUptoRow : OpenClaim := { program := "ytfeeincglijmjaa", sum := "4d84816dcd6c3e731e0007cd3f9e0cb64e952de4cd2a1215e47c42a9c749b44f", func := "bobstay/bobstaylaw19.DiffOther", spec := "diffOther", unfollowed := true, recurses := true, apart := false, narrowed := true }
def DiffOtherUptoSaid : Prop := diffOtherUptoRow.holds Try.pinned (OpenSpec.upto diffOtherSpec)

/-- 'bobstaylaw19.DiffOwn', WHERE WHAT IT READS IS OF BULK AT MOST 1048576: true; the input reads as it did. -/
def diffOwnUptoRow : OpenClaim := { program := "ytfeeincglijmjaa", sum := "4d84816dcd6c3e731e0007cd3f9e0cb64e952de4cd2a1215e47c42a9c749b44f", func := "bobstay/bobstaylaw19.DiffOwn", spec := "diffOwn", unfollowed := true, recurses := true, apart := false, narrowed := true }
def DiffOwnUptoSaid : Prop := diffOwnUptoRow.holds Try.pinned (OpenSpec.upto diffOwnSpec)

/-- 'bobstaylaw20.StateTells', WHERE WHAT IT READS IS OF BULK AT MOST 1048576: true; the input reads as it did. -/
def stateTellsUptoRow : OpenClaim := { program := "ytfeeincglijmjaa", sum := "4d84816dcd6c3e731e0007cd3f9e0cb64e952de4cd2a1215e47c42a9c749b44f", func := "bobstay/bobstaylaw20.StateTells", spec := "stateTells", unfollowed := true, recurses := true, apart := false, narrowed := true }
def StateTellsUptoSaid : Prop := stateTellsUptoRow.holds Try.pinned (OpenSpec.upto stateTellsSpec)

/-- 'bobstaylaw20.StateGrows', WHERE WHAT IT READS IS OF BULK AT MOST 1048576: true; the input reads as it did. -/
def stateGrowsUptoRow : OpenClaim := { program := "ytfeeincglijmjaa", sum := "4d84816dcd6c3e731e0007cd3f9e0cb64e952de4cd2a1215e47c42a9c749b44f", func := "bobstay/bobstaylaw20.StateGrows", spec := "stateGrows", unfollowed := true, recurses := true, apart := false, narrowed := true }
def StateGrowsUptoSaid : Prop := stateGrowsUptoRow.holds Try.pinned (OpenSpec.upto stateGrowsSpec)

end Rows
end Go.Proofs.Ytfeeincglijmjaa
