/-
  No cell of these rows narrows 'for every input' (looked for: loops, veiled, ifaces, maps, wideKeys, modest, calm, conditions, laid).
  DERIVED. THE GIVEN ROWS OF THIS SEAT. 8 by the template 'for every input the law returns true; each argument reads behind the call as it read before'; 0 by the template 'total and deterministic' (their statements: YthcnahcnboalbaaTotals.lean).
  GIVEN WITH THE SEED: the statements are not yours to turn. If you find one false, say at which input.
  Laid BY PROGRAM, IN A SANDBOX (cutbox-rows.mjs): the forced cells as the released guide's own fill.sh prints them over the translation 669b7ecc74e53b57… (all of the seat's roots in one cut). By AI agents, Wed Nov 11 2026. No macro, syntax, notation, axiom, sorry.
-/
import Derived.Test.YthcnahcnboalbaaChecked
import GoSem.Claim
import GoSem.ClaimJoined
import GoSem.ClaimMapViews
import Derived.JoinedTies
import Derived.KernelRfl
namespace Go.Proofs.Ythcnahcnboalbaa
/- THE CELL 'sum', in the pinned program and in every row, IS THE sha256 OF THE DUMP (.gsa) THAT YthcnahcnboalbaaProg.lean LOADS. Nothing in Lean hashes anything: it is a label: what it is worth is what the hold of that sum in a sandbox is worth. -/
noncomputable def Try.pinned : Pinned := { name := "ythcnahcnboalbaa", sum := "669b7ecc74e53b5782aba5576646643b9570e24103fbba55f210c4c5e507a887", checked := Try.checked }
namespace Rows
def none {H : Type} : Left H := { results := [], args := [] }

/-- 'bobstaylaw01.VarintNames': WHATEVER THE INPUT: true; the input reads as it did. -/
def varintNamesSpec : ChangeSpec := { name := "varintNames", fn := fun _ => fun
  | [] => { results := [.lit (.bool true)], args := [] }
  | _ => none }
def varintNamesRow : OpenClaim := { program := "ythcnahcnboalbaa", sum := "669b7ecc74e53b5782aba5576646643b9570e24103fbba55f210c4c5e507a887", func := "bobstay/bobstaylaw01.VarintNames", spec := "varintNames", unfollowed := true, recurses := true, apart := false }
def VarintNamesSaid : Prop := varintNamesRow.holds Try.pinned (OpenSpec.ofChange varintNamesSpec)

/-- ITS FALSE NEIGHBOUR: 'it returns false'. Refute it at one input. -/
def varintNamesWrong : ChangeSpec := { name := "varintNames", fn := fun _ => fun
  | [] => { results := [.lit (.bool false)], args := [] }
  | _ => none }
def VarintNamesWrongFalsely : Prop := varintNamesRow.holds Try.pinned (OpenSpec.ofChange varintNamesWrong)

/-- 'bobstaylaw01.VarintTells': WHATEVER THE INPUT: true; the input reads as it did. -/
def varintTellsSpec : ChangeSpec := { name := "varintTells", fn := fun _ => fun
  | [d1, d2] => { results := [.lit (.bool true)], args := [d1, d2] }
  | _ => none }
def varintTellsRow : OpenClaim := { program := "ythcnahcnboalbaa", sum := "669b7ecc74e53b5782aba5576646643b9570e24103fbba55f210c4c5e507a887", func := "bobstay/bobstaylaw01.VarintTells", spec := "varintTells", unfollowed := true, recurses := true, apart := false }
def VarintTellsSaid : Prop := varintTellsRow.holds Try.pinned (OpenSpec.ofChange varintTellsSpec)

/-- ITS FALSE NEIGHBOUR: 'it returns false'. Refute it at one input. -/
def varintTellsWrong : ChangeSpec := { name := "varintTells", fn := fun _ => fun
  | [d1, d2] => { results := [.lit (.bool false)], args := [d1, d2] }
  | _ => none }
def VarintTellsWrongFalsely : Prop := varintTellsRow.holds Try.pinned (OpenSpec.ofChange varintTellsWrong)

/-- 'bobstaylaw01.VarintLists': WHATEVER THE INPUT: true; the input reads as it did. -/
def varintListsSpec : ChangeSpec := { name := "varintLists", fn := fun _ => fun
  | [d1, d2] => { results := [.lit (.bool true)], args := [d1, d2] }
  | _ => none }
def varintListsRow : OpenClaim := { program := "ythcnahcnboalbaa", sum := "669b7ecc74e53b5782aba5576646643b9570e24103fbba55f210c4c5e507a887", func := "bobstay/bobstaylaw01.VarintLists", spec := "varintLists", unfollowed := true, recurses := true, apart := false }
def VarintListsSaid : Prop := varintListsRow.holds Try.pinned (OpenSpec.ofChange varintListsSpec)

/-- ITS FALSE NEIGHBOUR: 'it returns false'. Refute it at one input. -/
def varintListsWrong : ChangeSpec := { name := "varintLists", fn := fun _ => fun
  | [d1, d2] => { results := [.lit (.bool false)], args := [d1, d2] }
  | _ => none }
def VarintListsWrongFalsely : Prop := varintListsRow.holds Try.pinned (OpenSpec.ofChange varintListsWrong)

/-- 'bobstaylaw01.VarintBack': WHATEVER THE INPUT: true; the input reads as it did. -/
def varintBackSpec : ChangeSpec := { name := "varintBack", fn := fun _ => fun
  | [d1, d2, d3] => { results := [.lit (.bool true)], args := [d1, d2, d3] }
  | _ => none }
def varintBackRow : OpenClaim := { program := "ythcnahcnboalbaa", sum := "669b7ecc74e53b5782aba5576646643b9570e24103fbba55f210c4c5e507a887", func := "bobstay/bobstaylaw01.VarintBack", spec := "varintBack", unfollowed := true, recurses := true, apart := false }
def VarintBackSaid : Prop := varintBackRow.holds Try.pinned (OpenSpec.ofChange varintBackSpec)

/-- ITS FALSE NEIGHBOUR: 'it returns false'. Refute it at one input. -/
def varintBackWrong : ChangeSpec := { name := "varintBack", fn := fun _ => fun
  | [d1, d2, d3] => { results := [.lit (.bool false)], args := [d1, d2, d3] }
  | _ => none }
def VarintBackWrongFalsely : Prop := varintBackRow.holds Try.pinned (OpenSpec.ofChange varintBackWrong)

/-- 'bobstaylaw01.VarintJoined': WHATEVER THE INPUT: true; the input reads as it did. -/
def varintJoinedSpec : ChangeSpec := { name := "varintJoined", fn := fun _ => fun
  | [d1, d2, d3] => { results := [.lit (.bool true)], args := [d1, d2, d3] }
  | _ => none }
def varintJoinedRow : OpenClaim := { program := "ythcnahcnboalbaa", sum := "669b7ecc74e53b5782aba5576646643b9570e24103fbba55f210c4c5e507a887", func := "bobstay/bobstaylaw01.VarintJoined", spec := "varintJoined", unfollowed := true, recurses := true, apart := false }
def VarintJoinedSaid : Prop := varintJoinedRow.holds Try.pinned (OpenSpec.ofChange varintJoinedSpec)

/-- ITS FALSE NEIGHBOUR: 'it returns false'. Refute it at one input. -/
def varintJoinedWrong : ChangeSpec := { name := "varintJoined", fn := fun _ => fun
  | [d1, d2, d3] => { results := [.lit (.bool false)], args := [d1, d2, d3] }
  | _ => none }
def VarintJoinedWrongFalsely : Prop := varintJoinedRow.holds Try.pinned (OpenSpec.ofChange varintJoinedWrong)

/-- 'bobstaylaw01.VarintApart': WHATEVER THE INPUT: true; the input reads as it did. -/
def varintApartSpec : ChangeSpec := { name := "varintApart", fn := fun _ => fun
  | [d1, d2, d3] => { results := [.lit (.bool true)], args := [d1, d2, d3] }
  | _ => none }
def varintApartRow : OpenClaim := { program := "ythcnahcnboalbaa", sum := "669b7ecc74e53b5782aba5576646643b9570e24103fbba55f210c4c5e507a887", func := "bobstay/bobstaylaw01.VarintApart", spec := "varintApart", unfollowed := true, recurses := true, apart := false }
def VarintApartSaid : Prop := varintApartRow.holds Try.pinned (OpenSpec.ofChange varintApartSpec)

/-- ITS FALSE NEIGHBOUR: 'it returns false'. Refute it at one input. -/
def varintApartWrong : ChangeSpec := { name := "varintApart", fn := fun _ => fun
  | [d1, d2, d3] => { results := [.lit (.bool false)], args := [d1, d2, d3] }
  | _ => none }
def VarintApartWrongFalsely : Prop := varintApartRow.holds Try.pinned (OpenSpec.ofChange varintApartWrong)

/-- 'bobstaylaw01.VarintSizes': WHATEVER THE INPUT: true; the input reads as it did. -/
def varintSizesSpec : ChangeSpec := { name := "varintSizes", fn := fun _ => fun
  | [d1, d2, d3] => { results := [.lit (.bool true)], args := [d1, d2, d3] }
  | _ => none }
def varintSizesRow : OpenClaim := { program := "ythcnahcnboalbaa", sum := "669b7ecc74e53b5782aba5576646643b9570e24103fbba55f210c4c5e507a887", func := "bobstay/bobstaylaw01.VarintSizes", spec := "varintSizes", unfollowed := true, recurses := true, apart := false }
def VarintSizesSaid : Prop := varintSizesRow.holds Try.pinned (OpenSpec.ofChange varintSizesSpec)

/-- ITS FALSE NEIGHBOUR: 'it returns false'. Refute it at one input. -/
def varintSizesWrong : ChangeSpec := { name := "varintSizes", fn := fun _ => fun
  | [d1, d2, d3] => { results := [.lit (.bool false)], args := [d1, d2, d3] }
  | _ => none }
def VarintSizesWrongFalsely : Prop := varintSizesRow.holds Try.pinned (OpenSpec.ofChange varintSizesWrong)

/-- 'bobstaylaw01.VarintMany': WHATEVER THE INPUT: true; the input reads as it did. -/
def varintManySpec : ChangeSpec := { name := "varintMany", fn := fun _ => fun
  | [d] => { results := [.lit (.bool true)], args := [d] }
  | _ => none }
def varintManyRow : OpenClaim := { program := "ythcnahcnboalbaa", sum := "669b7ecc74e53b5782aba5576646643b9570e24103fbba55f210c4c5e507a887", func := "bobstay/bobstaylaw01.VarintMany", spec := "varintMany", unfollowed := true, recurses := true, apart := false }
def VarintManySaid : Prop := varintManyRow.holds Try.pinned (OpenSpec.ofChange varintManySpec)

/-- ITS FALSE NEIGHBOUR: 'it returns false'. Refute it at one input. -/
def varintManyWrong : ChangeSpec := { name := "varintMany", fn := fun _ => fun
  | [d] => { results := [.lit (.bool false)], args := [d] }
  | _ => none }
def VarintManyWrongFalsely : Prop := varintManyRow.holds Try.pinned (OpenSpec.ofChange varintManyWrong)

/- THE SECOND FORM. 'bulk': how many values and letters a reading holds, each counted each time it is reached (what is shared counts as often as it is met; a slice's spare places count too). A statement '..UptoSaid' is the law's where the arguments, and the package variables that the reading takes, are together of bulk at most 1048576: NARROWER than '..Said'. Prove '..Said' where nothing that the law and all that it calls make is longer than what came in: it says more and counts as full. Else prove '..UptoSaid'. A law counts once. -/
mutual
def uptoBulk {H : Type} : DataW H → Nat
  | .lit (.string bytes) => bytes.length + 1
  | .lit _ => 1
  | .nil => 1
  | .ptr d => uptoBulk d + 1
  | .slice elems spare => uptoBulkAll elems + uptoBulkAll spare + 1
  | .agg parts => uptoBulkAll parts + 1
  | .iface _ d => uptoBulk d + 1
  | .map entries => uptoBulkEntries entries + 1
  | .held _ => 1
def uptoBulkAll {H : Type} : List (DataW H) → Nat
  | [] => 0
  | d :: r => uptoBulk d + uptoBulkAll r
def uptoBulkEntries {H : Type} : List (Lit × DataW H) → Nat
  | [] => 0
  | x :: r => uptoBulkEntry x + uptoBulkEntries r
def uptoBulkEntry {H : Type} : Lit × DataW H → Nat
  | (.string bytes, d) => bytes.length + uptoBulk d + 1
  | (_, d) => uptoBulk d + 1
 end
def uptoSmall : (H : Type) → List (DataW H) → Bool := fun _ ds => decide (uptoBulkAll ds ≤ 1048576)
def OpenSpec.upto (s : _root_.Go.ChangeSpec) : _root_.Go.OpenSpec := { _root_.Go.OpenSpec.ofChange s with cond := some uptoSmall }

/-- 'bobstaylaw01.VarintNames', WHERE WHAT IT READS IS OF BULK AT MOST 1048576: true; the input reads as it did. -/
def varintNamesUptoRow : OpenClaim := { program := "ythcnahcnboalbaa", sum := "669b7ecc74e53b5782aba5576646643b9570e24103fbba55f210c4c5e507a887", func := "bobstay/bobstaylaw01.VarintNames", spec := "varintNames", unfollowed := true, recurses := true, apart := false, narrowed := true }
def VarintNamesUptoSaid : Prop := varintNamesUptoRow.holds Try.pinned (OpenSpec.upto varintNamesSpec)

/-- 'bobstaylaw01.VarintTells', WHERE WHAT IT READS IS OF BULK AT MOST 1048576: true; the input reads as it did. -/
def varintTellsUptoRow : OpenClaim := { program := "ythcnahcnboalbaa", sum := "669b7ecc74e53b5782aba5576646643b9570e24103fbba55f210c4c5e507a887", func := "bobstay/bobstaylaw01.VarintTells", spec := "varintTells", unfollowed := true, recurses := true, apart := false, narrowed := true }
def VarintTellsUptoSaid : Prop := varintTellsUptoRow.holds Try.pinned (OpenSpec.upto varintTellsSpec)

/-- 'bobstaylaw01.VarintLists', WHERE WHAT IT READS IS OF BULK AT MOST 1048576: true; the input reads as it did. -/
def varintListsUptoRow : OpenClaim := { program := "ythcnahcnboalbaa", sum := "669b7ecc74e53b5782aba5576646643b9570e24103fbba55f210c4c5e507a887", func := "bobstay/bobstaylaw01.VarintLists", spec := "varintLists", unfollowed := true, recurses := true, apart := false, narrowed := true }
def VarintListsUptoSaid : Prop := varintListsUptoRow.holds Try.pinned (OpenSpec.upto varintListsSpec)

/-- 'bobstaylaw01.VarintBack', WHERE WHAT IT READS IS OF BULK AT MOST 1048576: true; the input reads as it did. -/
def varintBackUptoRow : OpenClaim := { program := "ythcnahcnboalbaa", sum := "669b7ecc74e53b5782aba5576646643b9570e24103fbba55f210c4c5e507a887", func := "bobstay/bobstaylaw01.VarintBack", spec := "varintBack", unfollowed := true, recurses := true, apart := false, narrowed := true }
def VarintBackUptoSaid : Prop := varintBackUptoRow.holds Try.pinned (OpenSpec.upto varintBackSpec)

/-- 'bobstaylaw01.VarintJoined', WHERE WHAT IT READS IS OF BULK AT MOST 1048576: true; the input reads as it did. -/
def varintJoinedUptoRow : OpenClaim := { program := "ythcnahcnboalbaa", sum := "669b7ecc74e53b5782aba5576646643b9570e24103fbba55f210c4c5e507a887", func := "bobstay/bobstaylaw01.VarintJoined", spec := "varintJoined", unfollowed := true, recurses := true, apart := false, narrowed := true }
def VarintJoinedUptoSaid : Prop := varintJoinedUptoRow.holds Try.pinned (OpenSpec.upto varintJoinedSpec)

/-- 'bobstaylaw01.VarintApart', WHERE WHAT IT READS IS OF BULK AT MOST 1048576: true; the input reads as it did. -/
def varintApartUptoRow : OpenClaim := { program := "ythcnahcnboalbaa", sum := "669b7ecc74e53b5782aba5576646643b9570e24103fbba55f210c4c5e507a887", func := "bobstay/bobstaylaw01.VarintApart", spec := "varintApart", unfollowed := true, recurses := true, apart := false, narrowed := true }
def VarintApartUptoSaid : Prop := varintApartUptoRow.holds Try.pinned (OpenSpec.upto varintApartSpec)

/-- 'bobstaylaw01.VarintSizes', WHERE WHAT IT READS IS OF BULK AT MOST 1048576: true; the input reads as it did. -/
def varintSizesUptoRow : OpenClaim := { program := "ythcnahcnboalbaa", sum := "669b7ecc74e53b5782aba5576646643b9570e24103fbba55f210c4c5e507a887", func := "bobstay/bobstaylaw01.VarintSizes", spec := "varintSizes", unfollowed := true, recurses := true, apart := false, narrowed := true }
def VarintSizesUptoSaid : Prop := varintSizesUptoRow.holds Try.pinned (OpenSpec.upto varintSizesSpec)

/-- 'bobstaylaw01.VarintMany', WHERE WHAT IT READS IS OF BULK AT MOST 1048576: true; the input reads as it did. -/
def varintManyUptoRow : OpenClaim := { program := "ythcnahcnboalbaa", sum := "669b7ecc74e53b5782aba5576646643b9570e24103fbba55f210c4c5e507a887", func := "bobstay/bobstaylaw01.VarintMany", spec := "varintMany", unfollowed := true, recurses := true, apart := false, narrowed := true }
def VarintManyUptoSaid : Prop := varintManyUptoRow.holds Try.pinned (OpenSpec.upto varintManySpec)

end Rows
end Go.Proofs.Ythcnahcnboalbaa
