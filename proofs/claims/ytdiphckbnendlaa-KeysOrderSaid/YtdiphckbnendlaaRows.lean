/-
  No cell of these rows narrows 'for every input' (looked for: loops, veiled, ifaces, maps, wideKeys, modest, calm, conditions, laid).
  DERIVED. THE GIVEN ROWS OF THIS SEAT. 5 by the template 'for every input the law returns true; each argument reads behind the call as it read before'; 0 by the template 'total and deterministic' (their statements: YtdiphckbnendlaaTotals.lean).
  GIVEN WITH THE SEED: the statements are not yours to turn. If you find one false, say at which input.
  Laid BY PROGRAM, IN A SANDBOX (cutbox-rows.mjs): the forced cells as the released guide's own fill.sh prints them over the translation 1eedfd0a5eff7c08… (all of the seat's roots in one cut). By AI agents, Wed Nov 11 2026. No macro, syntax, notation, axiom, sorry.
-/
import Derived.Test.YtdiphckbnendlaaChecked
import GoSem.Claim
import GoSem.ClaimJoined
import GoSem.ClaimMapViews
import Derived.JoinedTies
import Derived.KernelRfl
namespace Go.Proofs.Ytdiphckbnendlaa
/- THE CELL 'sum', in the pinned program and in every row, IS THE sha256 OF THE DUMP (.gsa) THAT YtdiphckbnendlaaProg.lean LOADS. Nothing in Lean hashes anything: it is a label: what it is worth is what the hold of that sum in a sandbox is worth. -/
noncomputable def Try.pinned : Pinned := { name := "ytdiphckbnendlaa", sum := "1eedfd0a5eff7c08b35cf34e3e5caf325932510263b86661e732b444a6671982", checked := Try.checked }
namespace Rows
def none {H : Type} : Left H := { results := [], args := [] }

/-- 'bobstaylaw21.KeysTells': WHATEVER THE INPUT: true; the input reads as it did. -/
def keysTellsSpec : ChangeSpec := { name := "keysTells", fn := fun _ => fun
  | [d1, d2, d3, d4] => { results := [.lit (.bool true)], args := [d1, d2, d3, d4] }
  | _ => none }
def keysTellsRow : OpenClaim := { program := "ytdiphckbnendlaa", sum := "1eedfd0a5eff7c08b35cf34e3e5caf325932510263b86661e732b444a6671982", func := "bobstay/bobstaylaw21.KeysTells", spec := "keysTells", apart := false }
def KeysTellsSaid : Prop := keysTellsRow.holds Try.pinned (OpenSpec.ofChange keysTellsSpec)

/-- ITS FALSE NEIGHBOUR: 'it returns false'. Refute it at one input. -/
def keysTellsWrong : ChangeSpec := { name := "keysTells", fn := fun _ => fun
  | [d1, d2, d3, d4] => { results := [.lit (.bool false)], args := [d1, d2, d3, d4] }
  | _ => none }
def KeysTellsWrongFalsely : Prop := keysTellsRow.holds Try.pinned (OpenSpec.ofChange keysTellsWrong)

/-- 'bobstaylaw21.KeysTakes': WHATEVER THE INPUT: true; the input reads as it did. -/
def keysTakesSpec : ChangeSpec := { name := "keysTakes", fn := fun _ => fun
  | [d1, d2, d3] => { results := [.lit (.bool true)], args := [d1, d2, d3] }
  | _ => none }
def keysTakesRow : OpenClaim := { program := "ytdiphckbnendlaa", sum := "1eedfd0a5eff7c08b35cf34e3e5caf325932510263b86661e732b444a6671982", func := "bobstay/bobstaylaw21.KeysTakes", spec := "keysTakes", apart := false }
def KeysTakesSaid : Prop := keysTakesRow.holds Try.pinned (OpenSpec.ofChange keysTakesSpec)

/-- ITS FALSE NEIGHBOUR: 'it returns false'. Refute it at one input. -/
def keysTakesWrong : ChangeSpec := { name := "keysTakes", fn := fun _ => fun
  | [d1, d2, d3] => { results := [.lit (.bool false)], args := [d1, d2, d3] }
  | _ => none }
def KeysTakesWrongFalsely : Prop := keysTakesRow.holds Try.pinned (OpenSpec.ofChange keysTakesWrong)

/-- 'bobstaylaw21.KeysOrder': WHATEVER THE INPUT: true; the input reads as it did. -/
def keysOrderSpec : ChangeSpec := { name := "keysOrder", fn := fun _ => fun
  | [d] => { results := [.lit (.bool true)], args := [d] }
  | _ => none }
def keysOrderRow : OpenClaim := { program := "ytdiphckbnendlaa", sum := "1eedfd0a5eff7c08b35cf34e3e5caf325932510263b86661e732b444a6671982", func := "bobstay/bobstaylaw21.KeysOrder", spec := "keysOrder", apart := false }
def KeysOrderSaid : Prop := keysOrderRow.holds Try.pinned (OpenSpec.ofChange keysOrderSpec)

/-- ITS FALSE NEIGHBOUR: 'it returns false'. Refute it at one input. -/
def keysOrderWrong : ChangeSpec := { name := "keysOrder", fn := fun _ => fun
  | [d] => { results := [.lit (.bool false)], args := [d] }
  | _ => none }
def KeysOrderWrongFalsely : Prop := keysOrderRow.holds Try.pinned (OpenSpec.ofChange keysOrderWrong)

/-- 'bobstaylaw21.KeysAll': WHATEVER THE INPUT: true; the input reads as it did. -/
def keysAllSpec : ChangeSpec := { name := "keysAll", fn := fun _ => fun
  | [d1, d2] => { results := [.lit (.bool true)], args := [d1, d2] }
  | _ => none }
def keysAllRow : OpenClaim := { program := "ytdiphckbnendlaa", sum := "1eedfd0a5eff7c08b35cf34e3e5caf325932510263b86661e732b444a6671982", func := "bobstay/bobstaylaw21.KeysAll", spec := "keysAll", apart := false }
def KeysAllSaid : Prop := keysAllRow.holds Try.pinned (OpenSpec.ofChange keysAllSpec)

/-- ITS FALSE NEIGHBOUR: 'it returns false'. Refute it at one input. -/
def keysAllWrong : ChangeSpec := { name := "keysAll", fn := fun _ => fun
  | [d1, d2] => { results := [.lit (.bool false)], args := [d1, d2] }
  | _ => none }
def KeysAllWrongFalsely : Prop := keysAllRow.holds Try.pinned (OpenSpec.ofChange keysAllWrong)

/-- 'bobstaylaw21.KeysKeeps': WHATEVER THE INPUT: true; the input reads as it did. -/
def keysKeepsSpec : ChangeSpec := { name := "keysKeeps", fn := fun _ => fun
  | [d1, d2, d3] => { results := [.lit (.bool true)], args := [d1, d2, d3] }
  | _ => none }
def keysKeepsRow : OpenClaim := { program := "ytdiphckbnendlaa", sum := "1eedfd0a5eff7c08b35cf34e3e5caf325932510263b86661e732b444a6671982", func := "bobstay/bobstaylaw21.KeysKeeps", spec := "keysKeeps", apart := false }
def KeysKeepsSaid : Prop := keysKeepsRow.holds Try.pinned (OpenSpec.ofChange keysKeepsSpec)

/-- ITS FALSE NEIGHBOUR: 'it returns false'. Refute it at one input. -/
def keysKeepsWrong : ChangeSpec := { name := "keysKeeps", fn := fun _ => fun
  | [d1, d2, d3] => { results := [.lit (.bool false)], args := [d1, d2, d3] }
  | _ => none }
def KeysKeepsWrongFalsely : Prop := keysKeepsRow.holds Try.pinned (OpenSpec.ofChange keysKeepsWrong)

/- THE SECOND FORM. 'bulk': how many values and letters a reading holds, each counted each time it is reached (what is shared counts as often as it is met; a slice's spare places count too). A statement '..UptoSaid' is the law's where the arguments, and the package variables that the reading takes, are together of bulk at most 1048576: NARROWER than '..Said'. Prove '..Said' where nothing that the law and all that it calls make is longer than what came in: it says more and counts as full. Else prove '..UptoSaid'. A law counts once. -/
mutual
def uptoBulk {H : Type} : DataW H → Nat
  | .lit (.string bytes) => bytes.length + 1
  | .lit _ => 1
  | .nil => 1
  | .ptr d => uptoBulk d + 1
  | .slice elems spare => uptoBulkAll elems + uptoBulkAll spare + 1
  | .agg parts => uptoBulkAll parts + 1
  | .iface _ d => uptoBulk d + 1
  | .map entries => uptoBulkEntries entries + 1
  | .held _ => 1
def uptoBulkAll {H : Type} : List (DataW H) → Nat
  | [] => 0
  | d :: r => uptoBulk d + uptoBulkAll r
def uptoBulkEntries {H : Type} : List (Lit × DataW H) → Nat
  | [] => 0
  | x :: r => uptoBulkEntry x + uptoBulkEntries r
def uptoBulkEntry {H : Type} : Lit × DataW H → Nat
  | (.string bytes, d) => bytes.length + uptoBulk d + 1
  | (_, d) => uptoBulk d + 1
 end
def uptoSmall : (H : Type) → List (DataW H) → Bool := fun _ ds => decide (uptoBulkAll ds ≤ 1048576)
def OpenSpec.upto (s : _root_.Go.ChangeSpec) : _root_.Go.OpenSpec := { _root_.Go.OpenSpec.ofChange s with cond := some uptoSmall }

/-- 'bobstaylaw21.KeysTells', WHERE WHAT IT READS IS OF BULK AT MOST 1048576: true; the input reads as it did. -/
def keysTellsUptoRow : OpenClaim := { program := "ytdiphckbnendlaa", sum := "1eedfd0a5eff7c08b35cf34e3e5caf325932510263b86661e732b444a6671982", func := "bobstay/bobstaylaw21.KeysTells", spec := "keysTells", apart := false, narrowed := true }
def KeysTellsUptoSaid : Prop := keysTellsUptoRow.holds Try.pinned (OpenSpec.upto keysTellsSpec)

/-- 'bobstaylaw21.KeysTakes', WHERE WHAT IT READS IS OF BULK AT MOST 1048576: true; the input reads as it did. -/
def keysTakesUptoRow : OpenClaim := { program := "ytdiphckbnendlaa", sum := "1eedfd0a5eff7c08b35cf34e3e5caf325932510263b86661e732b444a6671982", func := "bobstay/bobstaylaw21.KeysTakes", spec := "keysTakes", apart := false, narrowed := true }
def KeysTakesUptoSaid : Prop := keysTakesUptoRow.holds Try.pinned (OpenSpec.upto keysTakesSpec)

/-- 'bobstaylaw21.KeysOrder', WHERE WHAT IT READS IS OF BULK AT MOST 1048576: true; the input reads as it did. -/
def keysOrderUptoRow : OpenClaim := { program := "ytdiphckbnendlaa", sum := "1eedfd0a5eff7c08b35cf34e3e5caf325932510263b86661e732b444a6671982", func := "bobstay/bobstaylaw21.KeysOrder", spec := "keysOrder", apart := false, narrowed := true }
def KeysOrderUptoSaid : Prop := keysOrderUptoRow.holds Try.pinned (OpenSpec.upto keysOrderSpec)

/-- 'bobstaylaw21.KeysAll', WHERE WHAT IT READS IS OF BULK AT MOST 1048576: true; the input reads as it did. -/
def keysAllUptoRow : OpenClaim := { program := "ytdiphckbnendlaa", sum := "1eedfd0a5eff7c08b35cf34e3e5caf325932510263b86661e732b444a6671982", func := "bobstay/bobstaylaw21.KeysAll", spec := "keysAll", apart := false, narrowed := true }
def KeysAllUptoSaid : Prop := keysAllUptoRow.holds Try.pinned (OpenSpec.upto keysAllSpec)

/-- 'bobstaylaw21.KeysKeeps', WHERE WHAT IT READS IS OF BULK AT MOST 1048576: true; the input reads as it did. -/
def keysKeepsUptoRow : OpenClaim := { program := "ytdiphckbnendlaa", sum := "1eedfd0a5eff7c08b35cf34e3e5caf325932510263b86661e732b444a6671982", func := "bobstay/bobstaylaw21.KeysKeeps", spec := "keysKeeps", apart := false, narrowed := true }
def KeysKeepsUptoSaid : Prop := keysKeepsUptoRow.holds Try.pinned (OpenSpec.upto keysKeepsSpec)

end Rows
end Go.Proofs.Ytdiphckbnendlaa
