/-
  No cell of these rows narrows 'for every input' (looked for: loops, veiled, ifaces, maps, wideKeys, modest, calm, conditions, laid).
  DERIVED. THE GIVEN ROWS OF THIS SEAT. 8 by the template 'for every input the law returns true; each argument reads behind the call as it read before'; 0 by the template 'total and deterministic' (their statements: YtibhhonmcbbohaaTotals.lean).
  GIVEN WITH THE SEED: the statements are not yours to turn. If you find one false, say at which input.
  Laid BY PROGRAM, IN A SANDBOX (cutbox-rows.mjs): the forced cells as the released guide's own fill.sh prints them over the translation ac919106f85472d8… (all of the seat's roots in one cut). By AI agents, Wed Nov 11 2026. No macro, syntax, notation, axiom, sorry.
-/
import Derived.Test.YtibhhonmcbbohaaChecked
import GoSem.Claim
import GoSem.ClaimJoined
import GoSem.ClaimMapViews
import Derived.JoinedTies
import Derived.KernelRfl
namespace Go.Proofs.Ytibhhonmcbbohaa
/- THE CELL 'sum', in the pinned program and in every row, IS THE sha256 OF THE DUMP (.gsa) THAT YtibhhonmcbbohaaProg.lean LOADS. Nothing in Lean hashes anything: it is a label: what it is worth is what the hold of that sum in a sandbox is worth. -/
noncomputable def Try.pinned : Pinned := { name := "ytibhhonmcbbohaa", sum := "ac919106f85472d8805a1330ec591d8f5587d62acb92e504b16a094f3b0b95d6", checked := Try.checked }
namespace Rows
def none {H : Type} : Left H := { results := [], args := [] }

/-- 'tegulalaw03.ParityMatrix': WHATEVER THE INPUT: true; the input reads as it did. -/
def parityMatrixSpec : ChangeSpec := { name := "parityMatrix", fn := fun _ => fun
  | [d] => { results := [.lit (.bool true)], args := [d] }
  | _ => none }
def parityMatrixRow : OpenClaim := { program := "ytibhhonmcbbohaa", sum := "ac919106f85472d8805a1330ec591d8f5587d62acb92e504b16a094f3b0b95d6", func := "tegula/tegulalaw03.ParityMatrix", spec := "parityMatrix", unfollowed := true, recurses := true, apart := false }
def ParityMatrixSaid : Prop := parityMatrixRow.holds Try.pinned (OpenSpec.ofChange parityMatrixSpec)

/-- ITS FALSE NEIGHBOUR: 'it returns false'. Refute it at one input. -/
def parityMatrixWrong : ChangeSpec := { name := "parityMatrix", fn := fun _ => fun
  | [d] => { results := [.lit (.bool false)], args := [d] }
  | _ => none }
def ParityMatrixWrongFalsely : Prop := parityMatrixRow.holds Try.pinned (OpenSpec.ofChange parityMatrixWrong)

/-- 'tegulalaw03.ParityEncodes': WHATEVER THE INPUT: true; the input reads as it did. -/
def parityEncodesSpec : ChangeSpec := { name := "parityEncodes", fn := fun _ => fun
  | [d] => { results := [.lit (.bool true)], args := [d] }
  | _ => none }
def parityEncodesRow : OpenClaim := { program := "ytibhhonmcbbohaa", sum := "ac919106f85472d8805a1330ec591d8f5587d62acb92e504b16a094f3b0b95d6", func := "tegula/tegulalaw03.ParityEncodes", spec := "parityEncodes", unfollowed := true, recurses := true, apart := false }
def ParityEncodesSaid : Prop := parityEncodesRow.holds Try.pinned (OpenSpec.ofChange parityEncodesSpec)

/-- ITS FALSE NEIGHBOUR: 'it returns false'. Refute it at one input. -/
def parityEncodesWrong : ChangeSpec := { name := "parityEncodes", fn := fun _ => fun
  | [d] => { results := [.lit (.bool false)], args := [d] }
  | _ => none }
def ParityEncodesWrongFalsely : Prop := parityEncodesRow.holds Try.pinned (OpenSpec.ofChange parityEncodesWrong)

/-- 'tegulalaw03.ParityChecks': WHATEVER THE INPUT: true; the input reads as it did. -/
def parityChecksSpec : ChangeSpec := { name := "parityChecks", fn := fun _ => fun
  | [d] => { results := [.lit (.bool true)], args := [d] }
  | _ => none }
def parityChecksRow : OpenClaim := { program := "ytibhhonmcbbohaa", sum := "ac919106f85472d8805a1330ec591d8f5587d62acb92e504b16a094f3b0b95d6", func := "tegula/tegulalaw03.ParityChecks", spec := "parityChecks", unfollowed := true, recurses := true, apart := false }
def ParityChecksSaid : Prop := parityChecksRow.holds Try.pinned (OpenSpec.ofChange parityChecksSpec)

/-- ITS FALSE NEIGHBOUR: 'it returns false'. Refute it at one input. -/
def parityChecksWrong : ChangeSpec := { name := "parityChecks", fn := fun _ => fun
  | [d] => { results := [.lit (.bool false)], args := [d] }
  | _ => none }
def ParityChecksWrongFalsely : Prop := parityChecksRow.holds Try.pinned (OpenSpec.ofChange parityChecksWrong)

/-- 'tegulalaw03.ParityDistance': WHATEVER THE INPUT: true; the input reads as it did. -/
def parityDistanceSpec : ChangeSpec := { name := "parityDistance", fn := fun _ => fun
  | [d1, d2] => { results := [.lit (.bool true)], args := [d1, d2] }
  | _ => none }
def parityDistanceRow : OpenClaim := { program := "ytibhhonmcbbohaa", sum := "ac919106f85472d8805a1330ec591d8f5587d62acb92e504b16a094f3b0b95d6", func := "tegula/tegulalaw03.ParityDistance", spec := "parityDistance", unfollowed := true, recurses := true, apart := false }
def ParityDistanceSaid : Prop := parityDistanceRow.holds Try.pinned (OpenSpec.ofChange parityDistanceSpec)

/-- ITS FALSE NEIGHBOUR: 'it returns false'. Refute it at one input. -/
def parityDistanceWrong : ChangeSpec := { name := "parityDistance", fn := fun _ => fun
  | [d1, d2] => { results := [.lit (.bool false)], args := [d1, d2] }
  | _ => none }
def ParityDistanceWrongFalsely : Prop := parityDistanceRow.holds Try.pinned (OpenSpec.ofChange parityDistanceWrong)

/-- 'tegulalaw03.ParityLinear': WHATEVER THE INPUT: true; the input reads as it did. -/
def parityLinearSpec : ChangeSpec := { name := "parityLinear", fn := fun _ => fun
  | [d1, d2, d3] => { results := [.lit (.bool true)], args := [d1, d2, d3] }
  | _ => none }
def parityLinearRow : OpenClaim := { program := "ytibhhonmcbbohaa", sum := "ac919106f85472d8805a1330ec591d8f5587d62acb92e504b16a094f3b0b95d6", func := "tegula/tegulalaw03.ParityLinear", spec := "parityLinear", unfollowed := true, recurses := true, apart := false }
def ParityLinearSaid : Prop := parityLinearRow.holds Try.pinned (OpenSpec.ofChange parityLinearSpec)

/-- ITS FALSE NEIGHBOUR: 'it returns false'. Refute it at one input. -/
def parityLinearWrong : ChangeSpec := { name := "parityLinear", fn := fun _ => fun
  | [d1, d2, d3] => { results := [.lit (.bool false)], args := [d1, d2, d3] }
  | _ => none }
def ParityLinearWrongFalsely : Prop := parityLinearRow.holds Try.pinned (OpenSpec.ofChange parityLinearWrong)

/-- 'tegulalaw03.ParityShifted': WHATEVER THE INPUT: true; the input reads as it did. -/
def parityShiftedSpec : ChangeSpec := { name := "parityShifted", fn := fun _ => fun
  | [d] => { results := [.lit (.bool true)], args := [d] }
  | _ => none }
def parityShiftedRow : OpenClaim := { program := "ytibhhonmcbbohaa", sum := "ac919106f85472d8805a1330ec591d8f5587d62acb92e504b16a094f3b0b95d6", func := "tegula/tegulalaw03.ParityShifted", spec := "parityShifted", unfollowed := true, recurses := true, apart := false }
def ParityShiftedSaid : Prop := parityShiftedRow.holds Try.pinned (OpenSpec.ofChange parityShiftedSpec)

/-- ITS FALSE NEIGHBOUR: 'it returns false'. Refute it at one input. -/
def parityShiftedWrong : ChangeSpec := { name := "parityShifted", fn := fun _ => fun
  | [d] => { results := [.lit (.bool false)], args := [d] }
  | _ => none }
def ParityShiftedWrongFalsely : Prop := parityShiftedRow.holds Try.pinned (OpenSpec.ofChange parityShiftedWrong)

/-- 'tegulalaw03.ParityUpdates': WHATEVER THE INPUT: true; the input reads as it did. -/
def parityUpdatesSpec : ChangeSpec := { name := "parityUpdates", fn := fun _ => fun
  | [d1, d2, d3] => { results := [.lit (.bool true)], args := [d1, d2, d3] }
  | _ => none }
def parityUpdatesRow : OpenClaim := { program := "ytibhhonmcbbohaa", sum := "ac919106f85472d8805a1330ec591d8f5587d62acb92e504b16a094f3b0b95d6", func := "tegula/tegulalaw03.ParityUpdates", spec := "parityUpdates", unfollowed := true, recurses := true, apart := false }
def ParityUpdatesSaid : Prop := parityUpdatesRow.holds Try.pinned (OpenSpec.ofChange parityUpdatesSpec)

/-- ITS FALSE NEIGHBOUR: 'it returns false'. Refute it at one input. -/
def parityUpdatesWrong : ChangeSpec := { name := "parityUpdates", fn := fun _ => fun
  | [d1, d2, d3] => { results := [.lit (.bool false)], args := [d1, d2, d3] }
  | _ => none }
def ParityUpdatesWrongFalsely : Prop := parityUpdatesRow.holds Try.pinned (OpenSpec.ofChange parityUpdatesWrong)

/-- 'tegulalaw03.ParityRows': WHATEVER THE INPUT: true; the input reads as it did. -/
def parityRowsSpec : ChangeSpec := { name := "parityRows", fn := fun _ => fun
  | [d1, d2] => { results := [.lit (.bool true)], args := [d1, d2] }
  | _ => none }
def parityRowsRow : OpenClaim := { program := "ytibhhonmcbbohaa", sum := "ac919106f85472d8805a1330ec591d8f5587d62acb92e504b16a094f3b0b95d6", func := "tegula/tegulalaw03.ParityRows", spec := "parityRows", unfollowed := true, recurses := true, apart := false }
def ParityRowsSaid : Prop := parityRowsRow.holds Try.pinned (OpenSpec.ofChange parityRowsSpec)

/-- ITS FALSE NEIGHBOUR: 'it returns false'. Refute it at one input. -/
def parityRowsWrong : ChangeSpec := { name := "parityRows", fn := fun _ => fun
  | [d1, d2] => { results := [.lit (.bool false)], args := [d1, d2] }
  | _ => none }
def ParityRowsWrongFalsely : Prop := parityRowsRow.holds Try.pinned (OpenSpec.ofChange parityRowsWrong)

/- THE SECOND FORM. 'bulk': how many values and letters a reading holds, each counted each time it is reached (what is shared counts as often as it is met; a slice's spare places count too). A statement '..UptoSaid' is the law's where the arguments, and the package variables that the reading takes, are together of bulk at most 1048576: NARROWER than '..Said'. Prove '..Said' where nothing that the law and all that it calls make is longer than what came in: it says more and counts as full. Else prove '..UptoSaid'. A law counts once. -/
mutual
def uptoBulk {H : Type} : DataW H → Nat
  | .lit (.string bytes) => bytes.length + 1
  | .lit _ => 1
  | .nil => 1
  | .ptr d => uptoBulk d + 1
  | .slice elems spare => uptoBulkAll elems + uptoBulkAll spare + 1
  | .agg parts => uptoBulkAll parts + 1
  | .iface _ d => uptoBulk d + 1
  | .map entries => uptoBulkEntries entries + 1
  | .held _ => 1
def uptoBulkAll {H : Type} : List (DataW H) → Nat
  | [] => 0
  | d :: r => uptoBulk d + uptoBulkAll r
def uptoBulkEntries {H : Type} : List (Lit × DataW H) → Nat
  | [] => 0
  | x :: r => uptoBulkEntry x + uptoBulkEntries r
def uptoBulkEntry {H : Type} : Lit × DataW H → Nat
  | (.string bytes, d) => bytes.length + uptoBulk d + 1
  | (_, d) => uptoBulk d + 1
 end
def uptoSmall : (H : Type) → List (DataW H) → Bool := fun _ ds => decide (uptoBulkAll ds ≤ 1048576)
def OpenSpec.upto (s : _root_.Go.ChangeSpec) : _root_.Go.OpenSpec := { _root_.Go.OpenSpec.ofChange s with cond := some uptoSmall }

/-- 'tegulalaw03.ParityMatrix', WHERE WHAT IT READS IS OF BULK AT MOST 1048576: true; the input reads as it did. -/
def parityMatrixUptoRow : OpenClaim := { program := "ytibhhonmcbbohaa", sum := "ac919106f85472d8805a1330ec591d8f5587d62acb92e504b16a094f3b0b95d6", func := "tegula/tegulalaw03.ParityMatrix", spec := "parityMatrix", unfollowed := true, recurses := true, apart := false, narrowed := true }
def ParityMatrixUptoSaid : Prop := parityMatrixUptoRow.holds Try.pinned (OpenSpec.upto parityMatrixSpec)

/-- 'tegulalaw03.ParityEncodes', WHERE WHAT IT READS IS OF BULK AT MOST 1048576: true; the input reads as it did. -/
def parityEncodesUptoRow : OpenClaim := { program := "ytibhhonmcbbohaa", sum := "ac919106f85472d8805a1330ec591d8f5587d62acb92e504b16a094f3b0b95d6", func := "tegula/tegulalaw03.ParityEncodes", spec := "parityEncodes", unfollowed := true, recurses := true, apart := false, narrowed := true }
def ParityEncodesUptoSaid : Prop := parityEncodesUptoRow.holds Try.pinned (OpenSpec.upto parityEncodesSpec)

/-- 'tegulalaw03.ParityChecks', WHERE WHAT IT READS IS OF BULK AT MOST 1048576: true; the input reads as it did. -/
def parityChecksUptoRow : OpenClaim := { program := "ytibhhonmcbbohaa", sum := "ac919106f85472d8805a1330ec591d8f5587d62acb92e504b16a094f3b0b95d6", func := "tegula/tegulalaw03.ParityChecks", spec := "parityChecks", unfollowed := true, recurses := true, apart := false, narrowed := true }
def ParityChecksUptoSaid : Prop := parityChecksUptoRow.holds Try.pinned (OpenSpec.upto parityChecksSpec)

/-- 'tegulalaw03.ParityDistance', WHERE WHAT IT READS IS OF BULK AT MOST 1048576: true; the input reads as it did. -/
def parityDistanceUptoRow : OpenClaim := { program := "ytibhhonmcbbohaa", sum := "ac919106f85472d8805a1330ec591d8f5587d62acb92e504b16a094f3b0b95d6", func := "tegula/tegulalaw03.ParityDistance", spec := "parityDistance", unfollowed := true, recurses := true, apart := false, narrowed := true }
def ParityDistanceUptoSaid : Prop := parityDistanceUptoRow.holds Try.pinned (OpenSpec.upto parityDistanceSpec)

/-- 'tegulalaw03.ParityLinear', WHERE WHAT IT READS IS OF BULK AT MOST 1048576: true; the input reads as it did. -/
def parityLinearUptoRow : OpenClaim := { program := "ytibhhonmcbbohaa", sum := "ac919106f85472d8805a1330ec591d8f5587d62acb92e504b16a094f3b0b95d6", func := "tegula/tegulalaw03.ParityLinear", spec := "parityLinear", unfollowed := true, recurses := true, apart := false, narrowed := true }
def ParityLinearUptoSaid : Prop := parityLinearUptoRow.holds Try.pinned (OpenSpec.upto parityLinearSpec)

/-- 'tegulalaw03.ParityShifted', WHERE WHAT IT READS IS OF BULK AT MOST 1048576: true; the input reads as it did. -/
def parityShiftedUptoRow : OpenClaim := { program := "ytibhhonmcbbohaa", sum := "ac919106f85472d8805a1330ec591d8f5587d62acb92e504b16a094f3b0b95d6", func := "tegula/tegulalaw03.ParityShifted", spec := "parityShifted", unfollowed := true, recurses := true, apart := false, narrowed := true }
def ParityShiftedUptoSaid : Prop := parityShiftedUptoRow.holds Try.pinned (OpenSpec.upto parityShiftedSpec)

/-- 'tegulalaw03.ParityUpdates', WHERE WHAT IT READS IS OF BULK AT MOST 1048576: true; the input reads as it did. -/
def parityUpdatesUptoRow : OpenClaim := { program := "ytibhhonmcbbohaa", sum := "ac919106f85472d8805a1330ec591d8f5587d62acb92e504b16a094f3b0b95d6", func := "tegula/tegulalaw03.ParityUpdates", spec := "parityUpdates", unfollowed := true, recurses := true, apart := false, narrowed := true }
def ParityUpdatesUptoSaid : Prop := parityUpdatesUptoRow.holds Try.pinned (OpenSpec.upto parityUpdatesSpec)

/-- 'tegulalaw03.ParityRows', WHERE WHAT IT READS IS OF BULK AT MOST 1048576: true; the input reads as it did. -/
def parityRowsUptoRow : OpenClaim := { program := "ytibhhonmcbbohaa", sum := "ac919106f85472d8805a1330ec591d8f5587d62acb92e504b16a094f3b0b95d6", func := "tegula/tegulalaw03.ParityRows", spec := "parityRows", unfollowed := true, recurses := true, apart := false, narrowed := true }
def ParityRowsUptoSaid : Prop := parityRowsUptoRow.holds Try.pinned (OpenSpec.upto parityRowsSpec)

end Rows
end Go.Proofs.Ytibhhonmcbbohaa
