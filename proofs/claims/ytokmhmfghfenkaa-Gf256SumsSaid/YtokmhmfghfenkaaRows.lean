/-
  No cell of these rows narrows 'for every input' (looked for: loops, veiled, ifaces, maps, wideKeys, modest, calm, conditions, laid).
  DERIVED. THE GIVEN ROWS OF THIS SEAT. 8 by the template 'for every input the law returns true; each argument reads behind the call as it read before'; 0 by the template 'total and deterministic' (their statements: YtokmhmfghfenkaaTotals.lean).
  GIVEN WITH THE SEED: the statements are not yours to turn. If you find one false, say at which input.
  Laid BY PROGRAM, IN A SANDBOX (cutbox-rows.mjs): the forced cells as the released guide's own fill.sh prints them over the translation 7e6aadd0a23397be… (all of the seat's roots in one cut). By AI agents, Wed Nov 11 2026. No macro, syntax, notation, axiom, sorry.
-/
import Derived.Test.YtokmhmfghfenkaaChecked
import GoSem.Claim
import GoSem.ClaimJoined
import GoSem.ClaimMapViews
import Derived.JoinedTies
import Derived.KernelRfl
namespace Go.Proofs.Ytokmhmfghfenkaa
/- THE CELL 'sum', in the pinned program and in every row, IS THE sha256 OF THE DUMP (.gsa) THAT YtokmhmfghfenkaaProg.lean LOADS. Nothing in Lean hashes anything: it is a label: what it is worth is what the hold of that sum in a sandbox is worth. -/
noncomputable def Try.pinned : Pinned := { name := "ytokmhmfghfenkaa", sum := "7e6aadd0a23397be9d0cd1d6ef22e8b3bdd592945b7095151be97b143cb2e749", checked := Try.checked }
namespace Rows
def none {H : Type} : Left H := { results := [], args := [] }

/-- 'tegulalaw01.Gf256Logarithms': WHATEVER THE INPUT: true; the input reads as it did. -/
def gf256LogarithmsSpec : ChangeSpec := { name := "gf256Logarithms", fn := fun _ => fun
  | [d1, d2] => { results := [.lit (.bool true)], args := [d1, d2] }
  | _ => none }
def gf256LogarithmsRow : OpenClaim := { program := "ytokmhmfghfenkaa", sum := "7e6aadd0a23397be9d0cd1d6ef22e8b3bdd592945b7095151be97b143cb2e749", func := "tegula/tegulalaw01.Gf256Logarithms", spec := "gf256Logarithms", apart := false }
def Gf256LogarithmsSaid : Prop := gf256LogarithmsRow.holds Try.pinned (OpenSpec.ofChange gf256LogarithmsSpec)

/-- ITS FALSE NEIGHBOUR: 'it returns false'. Refute it at one input. -/
def gf256LogarithmsWrong : ChangeSpec := { name := "gf256Logarithms", fn := fun _ => fun
  | [d1, d2] => { results := [.lit (.bool false)], args := [d1, d2] }
  | _ => none }
def Gf256LogarithmsWrongFalsely : Prop := gf256LogarithmsRow.holds Try.pinned (OpenSpec.ofChange gf256LogarithmsWrong)

/-- 'tegulalaw01.Gf256Fused': WHATEVER THE INPUT: true; the input reads as it did. -/
def gf256FusedSpec : ChangeSpec := { name := "gf256Fused", fn := fun _ => fun
  | [d1, d2, d3] => { results := [.lit (.bool true)], args := [d1, d2, d3] }
  | _ => none }
def gf256FusedRow : OpenClaim := { program := "ytokmhmfghfenkaa", sum := "7e6aadd0a23397be9d0cd1d6ef22e8b3bdd592945b7095151be97b143cb2e749", func := "tegula/tegulalaw01.Gf256Fused", spec := "gf256Fused", apart := false }
def Gf256FusedSaid : Prop := gf256FusedRow.holds Try.pinned (OpenSpec.ofChange gf256FusedSpec)

/-- ITS FALSE NEIGHBOUR: 'it returns false'. Refute it at one input. -/
def gf256FusedWrong : ChangeSpec := { name := "gf256Fused", fn := fun _ => fun
  | [d1, d2, d3] => { results := [.lit (.bool false)], args := [d1, d2, d3] }
  | _ => none }
def Gf256FusedWrongFalsely : Prop := gf256FusedRow.holds Try.pinned (OpenSpec.ofChange gf256FusedWrong)

/-- 'tegulalaw01.Gf256Products': WHATEVER THE INPUT: true; the input reads as it did. -/
def gf256ProductsSpec : ChangeSpec := { name := "gf256Products", fn := fun _ => fun
  | [d1, d2] => { results := [.lit (.bool true)], args := [d1, d2] }
  | _ => none }
def gf256ProductsRow : OpenClaim := { program := "ytokmhmfghfenkaa", sum := "7e6aadd0a23397be9d0cd1d6ef22e8b3bdd592945b7095151be97b143cb2e749", func := "tegula/tegulalaw01.Gf256Products", spec := "gf256Products", apart := false }
def Gf256ProductsSaid : Prop := gf256ProductsRow.holds Try.pinned (OpenSpec.ofChange gf256ProductsSpec)

/-- ITS FALSE NEIGHBOUR: 'it returns false'. Refute it at one input. -/
def gf256ProductsWrong : ChangeSpec := { name := "gf256Products", fn := fun _ => fun
  | [d1, d2] => { results := [.lit (.bool false)], args := [d1, d2] }
  | _ => none }
def Gf256ProductsWrongFalsely : Prop := gf256ProductsRow.holds Try.pinned (OpenSpec.ofChange gf256ProductsWrong)

/-- 'tegulalaw01.Gf256Axioms': WHATEVER THE INPUT: true; the input reads as it did. -/
def gf256AxiomsSpec : ChangeSpec := { name := "gf256Axioms", fn := fun _ => fun
  | [d1, d2, d3] => { results := [.lit (.bool true)], args := [d1, d2, d3] }
  | _ => none }
def gf256AxiomsRow : OpenClaim := { program := "ytokmhmfghfenkaa", sum := "7e6aadd0a23397be9d0cd1d6ef22e8b3bdd592945b7095151be97b143cb2e749", func := "tegula/tegulalaw01.Gf256Axioms", spec := "gf256Axioms", apart := false }
def Gf256AxiomsSaid : Prop := gf256AxiomsRow.holds Try.pinned (OpenSpec.ofChange gf256AxiomsSpec)

/-- ITS FALSE NEIGHBOUR: 'it returns false'. Refute it at one input. -/
def gf256AxiomsWrong : ChangeSpec := { name := "gf256Axioms", fn := fun _ => fun
  | [d1, d2, d3] => { results := [.lit (.bool false)], args := [d1, d2, d3] }
  | _ => none }
def Gf256AxiomsWrongFalsely : Prop := gf256AxiomsRow.holds Try.pinned (OpenSpec.ofChange gf256AxiomsWrong)

/-- 'tegulalaw01.Gf256Undone': WHATEVER THE INPUT: true; the input reads as it did. -/
def gf256UndoneSpec : ChangeSpec := { name := "gf256Undone", fn := fun _ => fun
  | [d1, d2, d3] => { results := [.lit (.bool true)], args := [d1, d2, d3] }
  | _ => none }
def gf256UndoneRow : OpenClaim := { program := "ytokmhmfghfenkaa", sum := "7e6aadd0a23397be9d0cd1d6ef22e8b3bdd592945b7095151be97b143cb2e749", func := "tegula/tegulalaw01.Gf256Undone", spec := "gf256Undone", apart := false }
def Gf256UndoneSaid : Prop := gf256UndoneRow.holds Try.pinned (OpenSpec.ofChange gf256UndoneSpec)

/-- ITS FALSE NEIGHBOUR: 'it returns false'. Refute it at one input. -/
def gf256UndoneWrong : ChangeSpec := { name := "gf256Undone", fn := fun _ => fun
  | [d1, d2, d3] => { results := [.lit (.bool false)], args := [d1, d2, d3] }
  | _ => none }
def Gf256UndoneWrongFalsely : Prop := gf256UndoneRow.holds Try.pinned (OpenSpec.ofChange gf256UndoneWrong)

/-- 'tegulalaw01.Gf256Inverses': WHATEVER THE INPUT: true; the input reads as it did. -/
def gf256InversesSpec : ChangeSpec := { name := "gf256Inverses", fn := fun _ => fun
  | [d1, d2] => { results := [.lit (.bool true)], args := [d1, d2] }
  | _ => none }
def gf256InversesRow : OpenClaim := { program := "ytokmhmfghfenkaa", sum := "7e6aadd0a23397be9d0cd1d6ef22e8b3bdd592945b7095151be97b143cb2e749", func := "tegula/tegulalaw01.Gf256Inverses", spec := "gf256Inverses", apart := false }
def Gf256InversesSaid : Prop := gf256InversesRow.holds Try.pinned (OpenSpec.ofChange gf256InversesSpec)

/-- ITS FALSE NEIGHBOUR: 'it returns false'. Refute it at one input. -/
def gf256InversesWrong : ChangeSpec := { name := "gf256Inverses", fn := fun _ => fun
  | [d1, d2] => { results := [.lit (.bool false)], args := [d1, d2] }
  | _ => none }
def Gf256InversesWrongFalsely : Prop := gf256InversesRow.holds Try.pinned (OpenSpec.ofChange gf256InversesWrong)

/-- 'tegulalaw01.Gf256Powers': WHATEVER THE INPUT: true; the input reads as it did. -/
def gf256PowersSpec : ChangeSpec := { name := "gf256Powers", fn := fun _ => fun
  | [d1, d2] => { results := [.lit (.bool true)], args := [d1, d2] }
  | _ => none }
def gf256PowersRow : OpenClaim := { program := "ytokmhmfghfenkaa", sum := "7e6aadd0a23397be9d0cd1d6ef22e8b3bdd592945b7095151be97b143cb2e749", func := "tegula/tegulalaw01.Gf256Powers", spec := "gf256Powers", apart := false }
def Gf256PowersSaid : Prop := gf256PowersRow.holds Try.pinned (OpenSpec.ofChange gf256PowersSpec)

/-- ITS FALSE NEIGHBOUR: 'it returns false'. Refute it at one input. -/
def gf256PowersWrong : ChangeSpec := { name := "gf256Powers", fn := fun _ => fun
  | [d1, d2] => { results := [.lit (.bool false)], args := [d1, d2] }
  | _ => none }
def Gf256PowersWrongFalsely : Prop := gf256PowersRow.holds Try.pinned (OpenSpec.ofChange gf256PowersWrong)

/-- 'tegulalaw01.Gf256Sums': WHATEVER THE INPUT: true; the input reads as it did. -/
def gf256SumsSpec : ChangeSpec := { name := "gf256Sums", fn := fun _ => fun
  | [d1, d2] => { results := [.lit (.bool true)], args := [d1, d2] }
  | _ => none }
def gf256SumsRow : OpenClaim := { program := "ytokmhmfghfenkaa", sum := "7e6aadd0a23397be9d0cd1d6ef22e8b3bdd592945b7095151be97b143cb2e749", func := "tegula/tegulalaw01.Gf256Sums", spec := "gf256Sums", apart := false }
def Gf256SumsSaid : Prop := gf256SumsRow.holds Try.pinned (OpenSpec.ofChange gf256SumsSpec)

/-- ITS FALSE NEIGHBOUR: 'it returns false'. Refute it at one input. -/
def gf256SumsWrong : ChangeSpec := { name := "gf256Sums", fn := fun _ => fun
  | [d1, d2] => { results := [.lit (.bool false)], args := [d1, d2] }
  | _ => none }
def Gf256SumsWrongFalsely : Prop := gf256SumsRow.holds Try.pinned (OpenSpec.ofChange gf256SumsWrong)

/- THE SECOND FORM. 'bulk': how many values and letters a reading holds, each counted each time it is reached (what is shared counts as often as it is met; a slice's spare places count too). A statement '..UptoSaid' is the law's where the arguments, and the package variables that the reading takes, are together of bulk at most 1048576: NARROWER than '..Said'. Prove '..Said' where nothing that the law and all that it calls make is longer than what came in: it says more and counts as full. Else prove '..UptoSaid'. A law counts once. -/
mutual
def uptoBulk {H : Type} : DataW H → Nat
  | .lit (.string bytes) => bytes.length + 1
  | .lit _ => 1
  | .nil => 1
  | .ptr d => uptoBulk d + 1
  | .slice elems spare => uptoBulkAll elems + uptoBulkAll spare + 1
  | .agg parts => uptoBulkAll parts + 1
  | .iface _ d => uptoBulk d + 1
  | .map entries => uptoBulkEntries entries + 1
  | .held _ => 1
def uptoBulkAll {H : Type} : List (DataW H) → Nat
  | [] => 0
  | d :: r => uptoBulk d + uptoBulkAll r
def uptoBulkEntries {H : Type} : List (Lit × DataW H) → Nat
  | [] => 0
  | x :: r => uptoBulkEntry x + uptoBulkEntries r
def uptoBulkEntry {H : Type} : Lit × DataW H → Nat
  | (.string bytes, d) => bytes.length + uptoBulk d + 1
  | (_, d) => uptoBulk d + 1
 end
def uptoSmall : (H : Type) → List (DataW H) → Bool := fun _ ds => decide (uptoBulkAll ds ≤ 1048576)
def OpenSpec.upto (s : _root_.Go.ChangeSpec) : _root_.Go.OpenSpec := { _root_.Go.OpenSpec.ofChange s with cond := some uptoSmall }

/-- 'tegulalaw01.Gf256Logarithms', WHERE WHAT IT READS IS OF BULK AT MOST 1048576: true; the input reads as it did. -/
def gf256LogarithmsUptoRow : OpenClaim := { program := "ytokmhmfghfenkaa", sum := "7e6aadd0a23397be9d0cd1d6ef22e8b3bdd592945b7095151be97b143cb2e749", func := "tegula/tegulalaw01.Gf256Logarithms", spec := "gf256Logarithms", apart := false, narrowed := true }
def Gf256LogarithmsUptoSaid : Prop := gf256LogarithmsUptoRow.holds Try.pinned (OpenSpec.upto gf256LogarithmsSpec)

/-- 'tegulalaw01.Gf256Fused', WHERE WHAT IT READS IS OF BULK AT MOST 1048576: true; the input reads as it did. -/
def gf256FusedUptoRow : OpenClaim := { program := "ytokmhmfghfenkaa", sum := "7e6aadd0a23397be9d0cd1d6ef22e8b3bdd592945b7095151be97b143cb2e749", func := "tegula/tegulalaw01.Gf256Fused", spec := "gf256Fused", apart := false, narrowed := true }
def Gf256FusedUptoSaid : Prop := gf256FusedUptoRow.holds Try.pinned (OpenSpec.upto gf256FusedSpec)

/-- 'tegulalaw01.Gf256Products', WHERE WHAT IT READS IS OF BULK AT MOST 1048576: true; the input reads as it did. -/
def gf256ProductsUptoRow : OpenClaim := { program := "ytokmhmfghfenkaa", sum := "7e6aadd0a23397be9d0cd1d6ef22e8b3bdd592945b7095151be97b143cb2e749", func := "tegula/tegulalaw01.Gf256Products", spec := "gf256Products", apart := false, narrowed := true }
def Gf256ProductsUptoSaid : Prop := gf256ProductsUptoRow.holds Try.pinned (OpenSpec.upto gf256ProductsSpec)

/-- 'tegulalaw01.Gf256Axioms', WHERE WHAT IT READS IS OF BULK AT MOST 1048576: true; the input reads as it did. -/
def gf256AxiomsUptoRow : OpenClaim := { program := "ytokmhmfghfenkaa", sum := "7e6aadd0a23397be9d0cd1d6ef22e8b3bdd592945b7095151be97b143cb2e749", func := "tegula/tegulalaw01.Gf256Axioms", spec := "gf256Axioms", apart := false, narrowed := true }
def Gf256AxiomsUptoSaid : Prop := gf256AxiomsUptoRow.holds Try.pinned (OpenSpec.upto gf256AxiomsSpec)

/-- 'tegulalaw01.Gf256Undone', WHERE WHAT IT READS IS OF BULK AT MOST 1048576: true; the input reads as it did. -/
def gf256UndoneUptoRow : OpenClaim := { program := "ytokmhmfghfenkaa", sum := "7e6aadd0a23397be9d0cd1d6ef22e8b3bdd592945b7095151be97b143cb2e749", func := "tegula/tegulalaw01.Gf256Undone", spec := "gf256Undone", apart := false, narrowed := true }
def Gf256UndoneUptoSaid : Prop := gf256UndoneUptoRow.holds Try.pinned (OpenSpec.upto gf256UndoneSpec)

/-- 'tegulalaw01.Gf256Inverses', WHERE WHAT IT READS IS OF BULK AT MOST 1048576: true; the input reads as it did. -/
def gf256InversesUptoRow : OpenClaim := { program := "ytokmhmfghfenkaa", sum := "7e6aadd0a23397be9d0cd1d6ef22e8b3bdd592945b7095151be97b143cb2e749", func := "tegula/tegulalaw01.Gf256Inverses", spec := "gf256Inverses", apart := false, narrowed := true }
def Gf256InversesUptoSaid : Prop := gf256InversesUptoRow.holds Try.pinned (OpenSpec.upto gf256InversesSpec)

/-- 'tegulalaw01.Gf256Powers', WHERE WHAT IT READS IS OF BULK AT MOST 1048576: true; the input reads as it did. -/
def gf256PowersUptoRow : OpenClaim := { program := "ytokmhmfghfenkaa", sum := "7e6aadd0a23397be9d0cd1d6ef22e8b3bdd592945b7095151be97b143cb2e749", func := "tegula/tegulalaw01.Gf256Powers", spec := "gf256Powers", apart := false, narrowed := true }
def Gf256PowersUptoSaid : Prop := gf256PowersUptoRow.holds Try.pinned (OpenSpec.upto gf256PowersSpec)

/-- 'tegulalaw01.Gf256Sums', WHERE WHAT IT READS IS OF BULK AT MOST 1048576: true; the input reads as it did. -/
def gf256SumsUptoRow : OpenClaim := { program := "ytokmhmfghfenkaa", sum := "7e6aadd0a23397be9d0cd1d6ef22e8b3bdd592945b7095151be97b143cb2e749", func := "tegula/tegulalaw01.Gf256Sums", spec := "gf256Sums", apart := false, narrowed := true }
def Gf256SumsUptoSaid : Prop := gf256SumsUptoRow.holds Try.pinned (OpenSpec.upto gf256SumsSpec)

end Rows
end Go.Proofs.Ytokmhmfghfenkaa
