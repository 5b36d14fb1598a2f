/-
  No cell of these rows narrows 'for every input' (looked for: loops, veiled, ifaces, maps, wideKeys, modest, calm, conditions, laid).
  DERIVED. THE GIVEN ROWS OF THIS SEAT. 3 by the template 'for every input the law returns true; each argument reads behind the call as it read before'; 0 by the template 'total and deterministic' (their statements: YtknieebmcpgppaaTotals.lean).
  GIVEN WITH THE SEED: the statements are not yours to turn. If you find one false, say at which input.
  Laid BY PROGRAM, IN A SANDBOX (cutbox-rows.mjs): the forced cells as the released guide's own fill.sh prints them over the translation 9a306dc0ab4ddf4d… (all of the seat's roots in one cut). By AI agents, Wed Nov 11 2026. No macro, syntax, notation, axiom, sorry.
-/
import Derived.Test.YtknieebmcpgppaaChecked
import GoSem.Claim
import GoSem.ClaimJoined
import GoSem.ClaimMapViews
import Derived.JoinedTies
import Derived.KernelRfl
namespace Go.Proofs.Ytknieebmcpgppaa
/- THE CELL 'sum', in the pinned program and in every row, IS THE sha256 OF THE DUMP (.gsa) THAT YtknieebmcpgppaaProg.lean LOADS. Nothing in Lean hashes anything: it is a label: what it is worth is what the hold of that sum in a sandbox is worth. -/
noncomputable def Try.pinned : Pinned := { name := "ytknieebmcpgppaa", sum := "9a306dc0ab4ddf4d2f3478d4945ab3b4790992e94adcb63635d49cd2d76e5bc4", checked := Try.checked }
namespace Rows
def none {H : Type} : Left H := { results := [], args := [] }

/-- 'underpinlaw02.CellsApart': WHATEVER THE INPUT: true; the input reads as it did. -/
def cellsApartSpec : ChangeSpec := { name := "cellsApart", fn := fun _ => fun
  | [d1, d2, d3, d4, d5] => { results := [.lit (.bool true)], args := [d1, d2, d3, d4, d5] }
  | _ => none }
def cellsApartRow : OpenClaim := { program := "ytknieebmcpgppaa", sum := "9a306dc0ab4ddf4d2f3478d4945ab3b4790992e94adcb63635d49cd2d76e5bc4", func := "underpin/underpinlaw02.CellsApart", spec := "cellsApart", apart := false }
def CellsApartSaid : Prop := cellsApartRow.holds Try.pinned (OpenSpec.ofChange cellsApartSpec)

/-- ITS FALSE NEIGHBOUR: 'it returns false'. Refute it at one input. -/
def cellsApartWrong : ChangeSpec := { name := "cellsApart", fn := fun _ => fun
  | [d1, d2, d3, d4, d5] => { results := [.lit (.bool false)], args := [d1, d2, d3, d4, d5] }
  | _ => none }
def CellsApartWrongFalsely : Prop := cellsApartRow.holds Try.pinned (OpenSpec.ofChange cellsApartWrong)

/-- 'underpinlaw02.CellsCalls': WHATEVER THE INPUT: true; the input reads as it did. -/
def cellsCallsSpec : ChangeSpec := { name := "cellsCalls", fn := fun _ => fun
  | [d1, d2, d3, d4] => { results := [.lit (.bool true)], args := [d1, d2, d3, d4] }
  | _ => none }
def cellsCallsRow : OpenClaim := { program := "ytknieebmcpgppaa", sum := "9a306dc0ab4ddf4d2f3478d4945ab3b4790992e94adcb63635d49cd2d76e5bc4", func := "underpin/underpinlaw02.CellsCalls", spec := "cellsCalls", apart := false }
def CellsCallsSaid : Prop := cellsCallsRow.holds Try.pinned (OpenSpec.ofChange cellsCallsSpec)

/-- ITS FALSE NEIGHBOUR: 'it returns false'. Refute it at one input. -/
def cellsCallsWrong : ChangeSpec := { name := "cellsCalls", fn := fun _ => fun
  | [d1, d2, d3, d4] => { results := [.lit (.bool false)], args := [d1, d2, d3, d4] }
  | _ => none }
def CellsCallsWrongFalsely : Prop := cellsCallsRow.holds Try.pinned (OpenSpec.ofChange cellsCallsWrong)

/-- 'underpinlaw02.CellsDiffer': WHATEVER THE INPUT: true; the input reads as it did. -/
def cellsDifferSpec : ChangeSpec := { name := "cellsDiffer", fn := fun _ => fun
  | [d1, d2] => { results := [.lit (.bool true)], args := [d1, d2] }
  | _ => none }
def cellsDifferRow : OpenClaim := { program := "ytknieebmcpgppaa", sum := "9a306dc0ab4ddf4d2f3478d4945ab3b4790992e94adcb63635d49cd2d76e5bc4", func := "underpin/underpinlaw02.CellsDiffer", spec := "cellsDiffer", apart := false }
def CellsDifferSaid : Prop := cellsDifferRow.holds Try.pinned (OpenSpec.ofChange cellsDifferSpec)

/-- ITS FALSE NEIGHBOUR: 'it returns false'. Refute it at one input. -/
def cellsDifferWrong : ChangeSpec := { name := "cellsDiffer", fn := fun _ => fun
  | [d1, d2] => { results := [.lit (.bool false)], args := [d1, d2] }
  | _ => none }
def CellsDifferWrongFalsely : Prop := cellsDifferRow.holds Try.pinned (OpenSpec.ofChange cellsDifferWrong)

/- THE SECOND FORM. 'bulk': how many values and letters a reading holds, each counted each time it is reached (what is shared counts as often as it is met; a slice's spare places count too). A statement '..UptoSaid' is the law's where the arguments, and the package variables that the reading takes, are together of bulk at most 1048576: NARROWER than '..Said'. Prove '..Said' where nothing that the law and all that it calls make is longer than what came in: it says more and counts as full. Else prove '..UptoSaid'. A law counts once. -/
mutual
def uptoBulk {H : Type} : DataW H → Nat
  | .lit (.string bytes) => bytes.length + 1
  | .lit _ => 1
  | .nil => 1
  | .ptr d => uptoBulk d + 1
  | .slice elems spare => uptoBulkAll elems + uptoBulkAll spare + 1
  | .agg parts => uptoBulkAll parts + 1
  | .iface _ d => uptoBulk d + 1
  | .map entries => uptoBulkEntries entries + 1
  | .held _ => 1
def uptoBulkAll {H : Type} : List (DataW H) → Nat
  | [] => 0
  | d :: r => uptoBulk d + uptoBulkAll r
def uptoBulkEntries {H : Type} : List (Lit × DataW H) → Nat
  | [] => 0
  | x :: r => uptoBulkEntry x + uptoBulkEntries r
def uptoBulkEntry {H : Type} : Lit × DataW H → Nat
  | (.string bytes, d) => bytes.length + uptoBulk d + 1
  | (_, d) => uptoBulk d + 1
 end
def uptoSmall : (H : Type) → List (DataW H) → Bool := fun _ ds => decide (uptoBulkAll ds ≤ 1048576)
def OpenSpec.upto (s : _root_.Go.ChangeSpec) : _root_.Go.OpenSpec := { _root_.Go.OpenSpec.ofChange s with cond := some uptoSmall }

/-- 'underpinlaw02.CellsApart', WHERE WHAT IT READS IS OF BULK AT MOST 1048576: true; the input reads as it did. -/
def cellsApartUptoRow : OpenClaim := { program := "ytknieebmcpgppaa", sum := "9a306dc0ab4ddf4d2f3478d4945ab3b4790992e94adcb63635d49cd2d76e5bc4", func := "underpin/underpinlaw02.CellsApart", spec := "cellsApart", apart := false, narrowed := true }
def CellsApartUptoSaid : Prop := cellsApartUptoRow.holds Try.pinned (OpenSpec.upto cellsApartSpec)

/-- 'underpinlaw02.CellsCalls', WHERE WHAT IT READS IS OF BULK AT MOST 1048576: true; the input reads as it did. -/
def cellsCallsUptoRow : OpenClaim := { program := "ytknieebmcpgppaa", sum := "9a306dc0ab4ddf4d2f3478d4945ab3b4790992e94adcb63635d49cd2d76e5bc4", func := "underpin/underpinlaw02.CellsCalls", spec := "cellsCalls", apart := false, narrowed := true }
def CellsCallsUptoSaid : Prop := cellsCallsUptoRow.holds Try.pinned (OpenSpec.upto cellsCallsSpec)

/-- 'underpinlaw02.CellsDiffer', WHERE WHAT IT READS IS OF BULK AT MOST 1048576: true; the input reads as it did. -/
def cellsDifferUptoRow : OpenClaim := { program := "ytknieebmcpgppaa", sum := "9a306dc0ab4ddf4d2f3478d4945ab3b4790992e94adcb63635d49cd2d76e5bc4", func := "underpin/underpinlaw02.CellsDiffer", spec := "cellsDiffer", apart := false, narrowed := true }
def CellsDifferUptoSaid : Prop := cellsDifferUptoRow.holds Try.pinned (OpenSpec.upto cellsDifferSpec)

end Rows
end Go.Proofs.Ytknieebmcpgppaa
