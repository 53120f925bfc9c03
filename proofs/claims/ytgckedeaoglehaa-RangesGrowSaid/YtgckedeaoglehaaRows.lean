/-
  No cell of these rows narrows 'for every input' (looked for: loops, veiled, ifaces, maps, wideKeys, modest, calm, conditions, laid).
  DERIVED. THE GIVEN ROWS OF THIS SEAT. 5 by the template 'for every input the law returns true; each argument reads behind the call as it read before'; 0 by the template 'total and deterministic' (their statements: YtgckedeaoglehaaTotals.lean).
  GIVEN WITH THE SEED: the statements are not yours to turn. If you find one false, say at which input.
  Laid BY PROGRAM, IN A SANDBOX (cutbox-rows.mjs): the forced cells as the released guide's own fill.sh prints them over the translation 92dd337d6a3c6e44… (all of the seat's roots in one cut). By AI agents, Wed Nov 11 2026. No macro, syntax, notation, axiom, sorry.
-/
import Derived.Test.YtgckedeaoglehaaChecked
import GoSem.Claim
import GoSem.ClaimJoined
import GoSem.ClaimMapViews
import Derived.JoinedTies
import Derived.KernelRfl
namespace Go.Proofs.Ytgckedeaoglehaa
/- THE CELL 'sum', in the pinned program and in every row, IS THE sha256 OF THE DUMP (.gsa) THAT YtgckedeaoglehaaProg.lean LOADS. Nothing in Lean hashes anything: it is a label: what it is worth is what the hold of that sum in a sandbox is worth. -/
noncomputable def Try.pinned : Pinned := { name := "ytgckedeaoglehaa", sum := "92dd337d6a3c6e4425829d7cd1401a92f4eb97e8be043d7d3c5f0f82079b3528", checked := Try.checked }
namespace Rows
def none {H : Type} : Left H := { results := [], args := [] }

/-- 'bobstaylaw09.RangesTells': WHATEVER THE INPUT: true; the input reads as it did. -/
def rangesTellsSpec : ChangeSpec := { name := "rangesTells", fn := fun _ => fun
  | [d1, d2] => { results := [.lit (.bool true)], args := [d1, d2] }
  | _ => none }
def rangesTellsRow : OpenClaim := { program := "ytgckedeaoglehaa", sum := "92dd337d6a3c6e4425829d7cd1401a92f4eb97e8be043d7d3c5f0f82079b3528", func := "bobstay/bobstaylaw09.RangesTells", spec := "rangesTells", inPlace := ["slices.overlaps[bobstay/api.Range]"], unfollowed := true, recurses := true, apart := false }
def RangesTellsSaid : Prop := rangesTellsRow.holds Try.pinned (OpenSpec.ofChange rangesTellsSpec)

/-- ITS FALSE NEIGHBOUR: 'it returns false'. Refute it at one input. -/
def rangesTellsWrong : ChangeSpec := { name := "rangesTells", fn := fun _ => fun
  | [d1, d2] => { results := [.lit (.bool false)], args := [d1, d2] }
  | _ => none }
def RangesTellsWrongFalsely : Prop := rangesTellsRow.holds Try.pinned (OpenSpec.ofChange rangesTellsWrong)

/-- 'bobstaylaw09.RangesOf': WHATEVER THE INPUT: true; the input reads as it did. -/
def rangesOfSpec : ChangeSpec := { name := "rangesOf", fn := fun _ => fun
  | [d] => { results := [.lit (.bool true)], args := [d] }
  | _ => none }
def rangesOfRow : OpenClaim := { program := "ytgckedeaoglehaa", sum := "92dd337d6a3c6e4425829d7cd1401a92f4eb97e8be043d7d3c5f0f82079b3528", func := "bobstay/bobstaylaw09.RangesOf", spec := "rangesOf", inPlace := ["slices.overlaps[bobstay/api.Range]"], unfollowed := true, recurses := true, apart := false }
def RangesOfSaid : Prop := rangesOfRow.holds Try.pinned (OpenSpec.ofChange rangesOfSpec)

/-- ITS FALSE NEIGHBOUR: 'it returns false'. Refute it at one input. -/
def rangesOfWrong : ChangeSpec := { name := "rangesOf", fn := fun _ => fun
  | [d] => { results := [.lit (.bool false)], args := [d] }
  | _ => none }
def RangesOfWrongFalsely : Prop := rangesOfRow.holds Try.pinned (OpenSpec.ofChange rangesOfWrong)

/-- 'bobstaylaw09.RangesHas': WHATEVER THE INPUT: true; the input reads as it did. -/
def rangesHasSpec : ChangeSpec := { name := "rangesHas", fn := fun _ => fun
  | [d1, d2, d3] => { results := [.lit (.bool true)], args := [d1, d2, d3] }
  | _ => none }
def rangesHasRow : OpenClaim := { program := "ytgckedeaoglehaa", sum := "92dd337d6a3c6e4425829d7cd1401a92f4eb97e8be043d7d3c5f0f82079b3528", func := "bobstay/bobstaylaw09.RangesHas", spec := "rangesHas", inPlace := ["slices.overlaps[bobstay/api.Range]"], unfollowed := true, recurses := true, apart := false }
def RangesHasSaid : Prop := rangesHasRow.holds Try.pinned (OpenSpec.ofChange rangesHasSpec)

/-- ITS FALSE NEIGHBOUR: 'it returns false'. Refute it at one input. -/
def rangesHasWrong : ChangeSpec := { name := "rangesHas", fn := fun _ => fun
  | [d1, d2, d3] => { results := [.lit (.bool false)], args := [d1, d2, d3] }
  | _ => none }
def RangesHasWrongFalsely : Prop := rangesHasRow.holds Try.pinned (OpenSpec.ofChange rangesHasWrong)

/-- 'bobstaylaw09.RangesOrder': WHATEVER THE INPUT: true; the input reads as it did. -/
def rangesOrderSpec : ChangeSpec := { name := "rangesOrder", fn := fun _ => fun
  | [d1, d2] => { results := [.lit (.bool true)], args := [d1, d2] }
  | _ => none }
def rangesOrderRow : OpenClaim := { program := "ytgckedeaoglehaa", sum := "92dd337d6a3c6e4425829d7cd1401a92f4eb97e8be043d7d3c5f0f82079b3528", func := "bobstay/bobstaylaw09.RangesOrder", spec := "rangesOrder", inPlace := ["slices.overlaps[bobstay/api.Range]"], unfollowed := true, recurses := true, apart := false }
def RangesOrderSaid : Prop := rangesOrderRow.holds Try.pinned (OpenSpec.ofChange rangesOrderSpec)

/-- ITS FALSE NEIGHBOUR: 'it returns false'. Refute it at one input. -/
def rangesOrderWrong : ChangeSpec := { name := "rangesOrder", fn := fun _ => fun
  | [d1, d2] => { results := [.lit (.bool false)], args := [d1, d2] }
  | _ => none }
def RangesOrderWrongFalsely : Prop := rangesOrderRow.holds Try.pinned (OpenSpec.ofChange rangesOrderWrong)

/-- 'bobstaylaw09.RangesGrow': WHATEVER THE INPUT: true; the input reads as it did. -/
def rangesGrowSpec : ChangeSpec := { name := "rangesGrow", fn := fun _ => fun
  | [d1, d2, d3] => { results := [.lit (.bool true)], args := [d1, d2, d3] }
  | _ => none }
def rangesGrowRow : OpenClaim := { program := "ytgckedeaoglehaa", sum := "92dd337d6a3c6e4425829d7cd1401a92f4eb97e8be043d7d3c5f0f82079b3528", func := "bobstay/bobstaylaw09.RangesGrow", spec := "rangesGrow", inPlace := ["slices.overlaps[bobstay/api.Range]"], unfollowed := true, recurses := true, apart := false }
def RangesGrowSaid : Prop := rangesGrowRow.holds Try.pinned (OpenSpec.ofChange rangesGrowSpec)

/-- ITS FALSE NEIGHBOUR: 'it returns false'. Refute it at one input. -/
def rangesGrowWrong : ChangeSpec := { name := "rangesGrow", fn := fun _ => fun
  | [d1, d2, d3] => { results := [.lit (.bool false)], args := [d1, d2, d3] }
  | _ => none }
def RangesGrowWrongFalsely : Prop := rangesGrowRow.holds Try.pinned (OpenSpec.ofChange rangesGrowWrong)

/- THE SECOND FORM. 'bulk': how many values and letters a reading holds, each counted each time it is reached (what is shared counts as often as it is met; a slice's spare places count too). A statement '..UptoSaid' is the law's where the arguments, and the package variables that the reading takes, are together of bulk at most 1048576: NARROWER than '..Said'. Prove '..Said' where nothing that the law and all that it calls make is longer than what came in: it says more and counts as full. Else prove '..UptoSaid'. A law counts once. -/
mutual
def uptoBulk {H : Type} : DataW H → Nat
  | .lit (.string bytes) => bytes.length + 1
  | .lit _ => 1
  | .nil => 1
  | .ptr d => uptoBulk d + 1
  | .slice elems spare => uptoBulkAll elems + uptoBulkAll spare + 1
  | .agg parts => uptoBulkAll parts + 1
  | .iface _ d => uptoBulk d + 1
  | .map entries => uptoBulkEntries entries + 1
  | .held _ => 1
def uptoBulkAll {H : Type} : List (DataW H) → Nat
  | [] => 0
  | d :: r => uptoBulk d + uptoBulkAll r
def uptoBulkEntries {H : Type} : List (Lit × DataW H) → Nat
  | [] => 0
  | x :: r => uptoBulkEntry x + uptoBulkEntries r
def uptoBulkEntry {H : Type} : Lit × DataW H → Nat
  | (.string bytes, d) => bytes.length + uptoBulk d + 1
  | (_, d) => uptoBulk d + 1
 end
def uptoSmall : (H : Type) → List (DataW H) → Bool := fun _ ds => decide (uptoBulkAll ds ≤ 1048576)
def OpenSpec.upto (s : _root_.Go.ChangeSpec) : _root_.Go.OpenSpec := { _root_.Go.OpenSpec.ofChange s with cond := some uptoSmall }

/-- 'bobstaylaw09.RangesTells', WHERE WHAT IT READS IS OF BULK AT MOST 1048576: true; the input reads as it did. -/
def rangesTellsUptoRow : OpenClaim := { program := "ytgckedeaoglehaa", sum := "92dd337d6a3c6e4425829d7cd1401a92f4eb97e8be043d7d3c5f0f82079b3528", func := "bobstay/bobstaylaw09.RangesTells", spec := "rangesTells", inPlace := ["slices.overlaps[bobstay/api.Range]"], unfollowed := true, recurses := true, apart := false, narrowed := true }
def RangesTellsUptoSaid : Prop := rangesTellsUptoRow.holds Try.pinned (OpenSpec.upto rangesTellsSpec)

/-- 'bobstaylaw09.RangesOf', WHERE WHAT IT READS IS OF BULK AT MOST 1048576: true; the input reads as it did. -/
def rangesOfUptoRow : OpenClaim := { program := "ytgckedeaoglehaa", sum := "92dd337d6a3c6e4425829d7cd1401a92f4eb97e8be043d7d3c5f0f82079b3528", func := "bobstay/bobstaylaw09.RangesOf", spec := "rangesOf", inPlace := ["slices.overlaps[bobstay/api.Range]"], unfollowed := true, recurses := true, apart := false, narrowed := true }
def RangesOfUptoSaid : Prop := rangesOfUptoRow.holds Try.pinned (OpenSpec.upto rangesOfSpec)

/-- 'bobstaylaw09.RangesHas', WHERE WHAT IT READS IS OF BULK AT MOST 1048576: true; the input reads as it did. -/
def rangesHasUptoRow : OpenClaim := { program := "ytgckedeaoglehaa", sum := "92dd337d6a3c6e4425829d7cd1401a92f4eb97e8be043d7d3c5f0f82079b3528", func := "bobstay/bobstaylaw09.RangesHas", spec := "rangesHas", inPlace := ["slices.overlaps[bobstay/api.Range]"], unfollowed := true, recurses := true, apart := false, narrowed := true }
def RangesHasUptoSaid : Prop := rangesHasUptoRow.holds Try.pinned (OpenSpec.upto rangesHasSpec)

/-- 'bobstaylaw09.RangesOrder', WHERE WHAT IT READS IS OF BULK AT MOST 1048576: true; the input reads as it did. -/
def rangesOrderUptoRow : OpenClaim := { program := "ytgckedeaoglehaa", sum := "92dd337d6a3c6e4425829d7cd1401a92f4eb97e8be043d7d3c5f0f82079b3528", func := "bobstay/bobstaylaw09.RangesOrder", spec := "rangesOrder", inPlace := ["slices.overlaps[bobstay/api.Range]"], unfollowed := true, recurses := true, apart := false, narrowed := true }
def RangesOrderUptoSaid : Prop := rangesOrderUptoRow.holds Try.pinned (OpenSpec.upto rangesOrderSpec)

/-- 'bobstaylaw09.RangesGrow', WHERE WHAT IT READS IS OF BULK AT MOST 1048576: true; the input reads as it did. -/
def rangesGrowUptoRow : OpenClaim := { program := "ytgckedeaoglehaa", sum := "92dd337d6a3c6e4425829d7cd1401a92f4eb97e8be043d7d3c5f0f82079b3528", func := "bobstay/bobstaylaw09.RangesGrow", spec := "rangesGrow", inPlace := ["slices.overlaps[bobstay/api.Range]"], unfollowed := true, recurses := true, apart := false, narrowed := true }
def RangesGrowUptoSaid : Prop := rangesGrowUptoRow.holds Try.pinned (OpenSpec.upto rangesGrowSpec)

end Rows
end Go.Proofs.Ytgckedeaoglehaa
