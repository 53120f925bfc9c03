/-
  No cell of these rows narrows 'for every input' (looked for: loops, veiled, ifaces, maps, wideKeys, modest, calm, conditions, laid).
  DERIVED. THE GIVEN ROWS OF THIS SEAT. 3 by the template 'for every input the law returns true; each argument reads behind the call as it read before'; 0 by the template 'total and deterministic' (their statements: YtgebebdapfnmpaaTotals.lean).
  GIVEN WITH THE SEED: the statements are not yours to turn. If you find one false, say at which input.
  Laid BY PROGRAM, IN A SANDBOX (cutbox-rows.mjs): the forced cells as the released guide's own fill.sh prints them over the translation 74621cfd1a70489f… (all of the seat's roots in one cut). By AI agents, Wed Nov 11 2026. No macro, syntax, notation, axiom, sorry.
-/
import Derived.Test.YtgebebdapfnmpaaChecked
import GoSem.Claim
import GoSem.ClaimJoined
import GoSem.ClaimMapViews
import Derived.JoinedTies
import Derived.KernelRfl
namespace Go.Proofs.Ytgebebdapfnmpaa
/- THE CELL 'sum', in the pinned program and in every row, IS THE sha256 OF THE DUMP (.gsa) THAT YtgebebdapfnmpaaProg.lean LOADS. Nothing in Lean hashes anything: it is a label: what it is worth is what the hold of that sum in a sandbox is worth. -/
noncomputable def Try.pinned : Pinned := { name := "ytgebebdapfnmpaa", sum := "74621cfd1a70489fe89b8ed209bd239e3a0d2cc574870e3b8e01c6a6fc98db41", checked := Try.checked }
namespace Rows
def none {H : Type} : Left H := { results := [], args := [] }

/-- 'bobstaylaw11.SentWhen': WHATEVER THE INPUT: true; the input reads as it did. -/
def sentWhenSpec : ChangeSpec := { name := "sentWhen", fn := fun _ => fun
  | [d1, d2, d3, d4] => { results := [.lit (.bool true)], args := [d1, d2, d3, d4] }
  | _ => none }
def sentWhenRow : OpenClaim := { program := "ytgebebdapfnmpaa", sum := "74621cfd1a70489fe89b8ed209bd239e3a0d2cc574870e3b8e01c6a6fc98db41", func := "bobstay/bobstaylaw11.SentWhen", spec := "sentWhen", unfollowed := true, recurses := true, apart := false }
def SentWhenSaid : Prop := sentWhenRow.holds Try.pinned (OpenSpec.ofChange sentWhenSpec)

/-- ITS FALSE NEIGHBOUR: 'it returns false'. Refute it at one input. -/
def sentWhenWrong : ChangeSpec := { name := "sentWhen", fn := fun _ => fun
  | [d1, d2, d3, d4] => { results := [.lit (.bool false)], args := [d1, d2, d3, d4] }
  | _ => none }
def SentWhenWrongFalsely : Prop := sentWhenRow.holds Try.pinned (OpenSpec.ofChange sentWhenWrong)

/-- 'bobstaylaw11.SentNone': WHATEVER THE INPUT: true; the input reads as it did. -/
def sentNoneSpec : ChangeSpec := { name := "sentNone", fn := fun _ => fun
  | [d1, d2, d3] => { results := [.lit (.bool true)], args := [d1, d2, d3] }
  | _ => none }
def sentNoneRow : OpenClaim := { program := "ytgebebdapfnmpaa", sum := "74621cfd1a70489fe89b8ed209bd239e3a0d2cc574870e3b8e01c6a6fc98db41", func := "bobstay/bobstaylaw11.SentNone", spec := "sentNone", unfollowed := true, recurses := true, apart := false }
def SentNoneSaid : Prop := sentNoneRow.holds Try.pinned (OpenSpec.ofChange sentNoneSpec)

/-- ITS FALSE NEIGHBOUR: 'it returns false'. Refute it at one input. -/
def sentNoneWrong : ChangeSpec := { name := "sentNone", fn := fun _ => fun
  | [d1, d2, d3] => { results := [.lit (.bool false)], args := [d1, d2, d3] }
  | _ => none }
def SentNoneWrongFalsely : Prop := sentNoneRow.holds Try.pinned (OpenSpec.ofChange sentNoneWrong)

/-- 'bobstaylaw11.SentTime': WHATEVER THE INPUT: true; the input reads as it did. -/
def sentTimeSpec : ChangeSpec := { name := "sentTime", fn := fun _ => fun
  | [d1, d2, d3, d4, d5] => { results := [.lit (.bool true)], args := [d1, d2, d3, d4, d5] }
  | _ => none }
def sentTimeRow : OpenClaim := { program := "ytgebebdapfnmpaa", sum := "74621cfd1a70489fe89b8ed209bd239e3a0d2cc574870e3b8e01c6a6fc98db41", func := "bobstay/bobstaylaw11.SentTime", spec := "sentTime", unfollowed := true, recurses := true, apart := false }
def SentTimeSaid : Prop := sentTimeRow.holds Try.pinned (OpenSpec.ofChange sentTimeSpec)

/-- ITS FALSE NEIGHBOUR: 'it returns false'. Refute it at one input. -/
def sentTimeWrong : ChangeSpec := { name := "sentTime", fn := fun _ => fun
  | [d1, d2, d3, d4, d5] => { results := [.lit (.bool false)], args := [d1, d2, d3, d4, d5] }
  | _ => none }
def SentTimeWrongFalsely : Prop := sentTimeRow.holds Try.pinned (OpenSpec.ofChange sentTimeWrong)

/- THE SECOND FORM. 'bulk': how many values and letters a reading holds, each counted each time it is reached (what is shared counts as often as it is met; a slice's spare places count too). A statement '..UptoSaid' is the law's where the arguments, and the package variables that the reading takes, are together of bulk at most 1048576: NARROWER than '..Said'. Prove '..Said' where nothing that the law and all that it calls make is longer than what came in: it says more and counts as full. Else prove '..UptoSaid'. A law counts once. -/
mutual
def uptoBulk {H : Type} : DataW H → Nat
  | .lit (.string bytes) => bytes.length + 1
  | .lit _ => 1
  | .nil => 1
  | .ptr d => uptoBulk d + 1
  | .slice elems spare => uptoBulkAll elems + uptoBulkAll spare + 1
  | .agg parts => uptoBulkAll parts + 1
  | .iface _ d => uptoBulk d + 1
  | .map entries => uptoBulkEntries entries + 1
  | .held _ => 1
def uptoBulkAll {H : Type} : List (DataW H) → Nat
  | [] => 0
  | d :: r => uptoBulk d + uptoBulkAll r
def uptoBulkEntries {H : Type} : List (Lit × DataW H) → Nat
  | [] => 0
  | x :: r => uptoBulkEntry x + uptoBulkEntries r
def uptoBulkEntry {H : Type} : Lit × DataW H → Nat
  | (.string bytes, d) => bytes.length + uptoBulk d + 1
  | (_, d) => uptoBulk d + 1
 end
def uptoSmall : (H : Type) → List (DataW H) → Bool := fun _ ds => decide (uptoBulkAll ds ≤ 1048576)
def OpenSpec.upto (s : _root_.Go.ChangeSpec) : _root_.Go.OpenSpec := { _root_.Go.OpenSpec.ofChange s with cond := some uptoSmall }

/-- 'bobstaylaw11.SentWhen', WHERE WHAT IT READS IS OF BULK AT MOST 1048576: true; the input reads as it did. -/
def sentWhenUptoRow : OpenClaim := { program := "ytgebebdapfnmpaa", sum := "74621cfd1a70489fe89b8ed209bd239e3a0d2cc574870e3b8e01c6a6fc98db41", func := "bobstay/bobstaylaw11.SentWhen", spec := "sentWhen", unfollowed := true, recurses := true, apart := false, narrowed := true }
def SentWhenUptoSaid : Prop := sentWhenUptoRow.holds Try.pinned (OpenSpec.upto sentWhenSpec)

/-- 'bobstaylaw11.SentNone', WHERE WHAT IT READS IS OF BULK AT MOST 1048576: true; the input reads as it did. -/
def sentNoneUptoRow : OpenClaim := { program := "ytgebebdapfnmpaa", sum := "74621cfd1a70489fe89b8ed209bd239e3a0d2cc574870e3b8e01c6a6fc98db41", func := "bobstay/bobstaylaw11.SentNone", spec := "sentNone", unfollowed := true, recurses := true, apart := false, narrowed := true }
def SentNoneUptoSaid : Prop := sentNoneUptoRow.holds Try.pinned (OpenSpec.upto sentNoneSpec)

/-- 'bobstaylaw11.SentTime', WHERE WHAT IT READS IS OF BULK AT MOST 1048576: true; the input reads as it did. -/
def sentTimeUptoRow : OpenClaim := { program := "ytgebebdapfnmpaa", sum := "74621cfd1a70489fe89b8ed209bd239e3a0d2cc574870e3b8e01c6a6fc98db41", func := "bobstay/bobstaylaw11.SentTime", spec := "sentTime", unfollowed := true, recurses := true, apart := false, narrowed := true }
def SentTimeUptoSaid : Prop := sentTimeUptoRow.holds Try.pinned (OpenSpec.upto sentTimeSpec)

end Rows
end Go.Proofs.Ytgebebdapfnmpaa
