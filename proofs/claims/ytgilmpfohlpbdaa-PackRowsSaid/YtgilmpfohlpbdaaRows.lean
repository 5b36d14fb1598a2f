/-
  No cell of these rows narrows 'for every input' (looked for: loops, veiled, ifaces, maps, wideKeys, modest, calm, conditions, laid).
  DERIVED. THE GIVEN ROWS OF THIS SEAT. 12 by the template 'for every input the law returns true; each argument reads behind the call as it read before'; 0 by the template 'total and deterministic' (their statements: YtgilmpfohlpbdaaTotals.lean).
  GIVEN WITH THE SEED: the statements are not yours to turn. If you find one false, say at which input.
  Laid BY PROGRAM, IN A SANDBOX (cutbox-rows.mjs): the forced cells as the released guide's own fill.sh prints them over the translation 43cdea5190682b70… (all of the seat's roots in one cut). By AI agents, Wed Nov 11 2026. No macro, syntax, notation, axiom, sorry.
-/
import Derived.Test.YtgilmpfohlpbdaaChecked
import GoSem.Claim
import GoSem.ClaimJoined
import GoSem.ClaimMapViews
import Derived.JoinedTies
import Derived.KernelRfl
namespace Go.Proofs.Ytgilmpfohlpbdaa
/- THE CELL 'sum', in the pinned program and in every row, IS THE sha256 OF THE DUMP (.gsa) THAT YtgilmpfohlpbdaaProg.lean LOADS. Nothing in Lean hashes anything: it is a label: what it is worth is what the hold of that sum in a sandbox is worth. -/
noncomputable def Try.pinned : Pinned := { name := "ytgilmpfohlpbdaa", sum := "43cdea5190682b7076a2fa50bbd8de8d2c0ff23a7382d679fbbcb7171acc2c80", checked := Try.checked }
namespace Rows
def none {H : Type} : Left H := { results := [], args := [] }

/-- 'underpinlaw09.LedgerCalls': WHATEVER THE INPUT: true; the input reads as it did. -/
def ledgerCallsSpec : ChangeSpec := { name := "ledgerCalls", fn := fun _ => fun
  | [d1, d2, d3, d4] => { results := [.lit (.bool true)], args := [d1, d2, d3, d4] }
  | _ => none }
def ledgerCallsRow : OpenClaim := { program := "ytgilmpfohlpbdaa", sum := "43cdea5190682b7076a2fa50bbd8de8d2c0ff23a7382d679fbbcb7171acc2c80", func := "underpin/underpinlaw09.LedgerCalls", spec := "ledgerCalls", plainKeys := false, apart := false }
def LedgerCallsSaid : Prop := ledgerCallsRow.holds Try.pinned (OpenSpec.ofChange ledgerCallsSpec)

/-- ITS FALSE NEIGHBOUR: 'it returns false'. Refute it at one input. -/
def ledgerCallsWrong : ChangeSpec := { name := "ledgerCalls", fn := fun _ => fun
  | [d1, d2, d3, d4] => { results := [.lit (.bool false)], args := [d1, d2, d3, d4] }
  | _ => none }
def LedgerCallsWrongFalsely : Prop := ledgerCallsRow.holds Try.pinned (OpenSpec.ofChange ledgerCallsWrong)

/-- 'underpinlaw09.LedgerBounds': WHATEVER THE INPUT: true; the input reads as it did. -/
def ledgerBoundsSpec : ChangeSpec := { name := "ledgerBounds", fn := fun _ => fun
  | [d1, d2] => { results := [.lit (.bool true)], args := [d1, d2] }
  | _ => none }
def ledgerBoundsRow : OpenClaim := { program := "ytgilmpfohlpbdaa", sum := "43cdea5190682b7076a2fa50bbd8de8d2c0ff23a7382d679fbbcb7171acc2c80", func := "underpin/underpinlaw09.LedgerBounds", spec := "ledgerBounds", plainKeys := false, apart := false }
def LedgerBoundsSaid : Prop := ledgerBoundsRow.holds Try.pinned (OpenSpec.ofChange ledgerBoundsSpec)

/-- ITS FALSE NEIGHBOUR: 'it returns false'. Refute it at one input. -/
def ledgerBoundsWrong : ChangeSpec := { name := "ledgerBounds", fn := fun _ => fun
  | [d1, d2] => { results := [.lit (.bool false)], args := [d1, d2] }
  | _ => none }
def LedgerBoundsWrongFalsely : Prop := ledgerBoundsRow.holds Try.pinned (OpenSpec.ofChange ledgerBoundsWrong)

/-- 'underpinlaw22.EpochCalls': WHATEVER THE INPUT: true; the input reads as it did. -/
def epochCallsSpec : ChangeSpec := { name := "epochCalls", fn := fun _ => fun
  | [d1, d2, d3, d4] => { results := [.lit (.bool true)], args := [d1, d2, d3, d4] }
  | _ => none }
def epochCallsRow : OpenClaim := { program := "ytgilmpfohlpbdaa", sum := "43cdea5190682b7076a2fa50bbd8de8d2c0ff23a7382d679fbbcb7171acc2c80", func := "underpin/underpinlaw22.EpochCalls", spec := "epochCalls", inPlace := ["maps.clone"], plainKeys := false, apart := false }
def EpochCallsSaid : Prop := epochCallsRow.holds Try.pinned (OpenSpec.ofChange epochCallsSpec)

/-- ITS FALSE NEIGHBOUR: 'it returns false'. Refute it at one input. -/
def epochCallsWrong : ChangeSpec := { name := "epochCalls", fn := fun _ => fun
  | [d1, d2, d3, d4] => { results := [.lit (.bool false)], args := [d1, d2, d3, d4] }
  | _ => none }
def EpochCallsWrongFalsely : Prop := epochCallsRow.holds Try.pinned (OpenSpec.ofChange epochCallsWrong)

/-- 'underpinlaw22.EpochSettles': WHATEVER THE INPUT: true; the input reads as it did. -/
def epochSettlesSpec : ChangeSpec := { name := "epochSettles", fn := fun _ => fun
  | [d1, d2, d3] => { results := [.lit (.bool true)], args := [d1, d2, d3] }
  | _ => none }
def epochSettlesRow : OpenClaim := { program := "ytgilmpfohlpbdaa", sum := "43cdea5190682b7076a2fa50bbd8de8d2c0ff23a7382d679fbbcb7171acc2c80", func := "underpin/underpinlaw22.EpochSettles", spec := "epochSettles", inPlace := ["maps.clone"], plainKeys := false, apart := false }
def EpochSettlesSaid : Prop := epochSettlesRow.holds Try.pinned (OpenSpec.ofChange epochSettlesSpec)

/-- ITS FALSE NEIGHBOUR: 'it returns false'. Refute it at one input. -/
def epochSettlesWrong : ChangeSpec := { name := "epochSettles", fn := fun _ => fun
  | [d1, d2, d3] => { results := [.lit (.bool false)], args := [d1, d2, d3] }
  | _ => none }
def EpochSettlesWrongFalsely : Prop := epochSettlesRow.holds Try.pinned (OpenSpec.ofChange epochSettlesWrong)

/-- 'underpinlaw22.EpochRises': WHATEVER THE INPUT: true; the input reads as it did. -/
def epochRisesSpec : ChangeSpec := { name := "epochRises", fn := fun _ => fun
  | [d1, d2, d3] => { results := [.lit (.bool true)], args := [d1, d2, d3] }
  | _ => none }
def epochRisesRow : OpenClaim := { program := "ytgilmpfohlpbdaa", sum := "43cdea5190682b7076a2fa50bbd8de8d2c0ff23a7382d679fbbcb7171acc2c80", func := "underpin/underpinlaw22.EpochRises", spec := "epochRises", inPlace := ["maps.clone"], plainKeys := false, apart := false }
def EpochRisesSaid : Prop := epochRisesRow.holds Try.pinned (OpenSpec.ofChange epochRisesSpec)

/-- ITS FALSE NEIGHBOUR: 'it returns false'. Refute it at one input. -/
def epochRisesWrong : ChangeSpec := { name := "epochRises", fn := fun _ => fun
  | [d1, d2, d3] => { results := [.lit (.bool false)], args := [d1, d2, d3] }
  | _ => none }
def EpochRisesWrongFalsely : Prop := epochRisesRow.holds Try.pinned (OpenSpec.ofChange epochRisesWrong)

/-- 'underpinlaw09.LedgerBack': WHATEVER THE INPUT: true; the input reads as it did. -/
def ledgerBackSpec : ChangeSpec := { name := "ledgerBack", fn := fun _ => fun
  | [d1, d2, d3, d4] => { results := [.lit (.bool true)], args := [d1, d2, d3, d4] }
  | _ => none }
def ledgerBackRow : OpenClaim := { program := "ytgilmpfohlpbdaa", sum := "43cdea5190682b7076a2fa50bbd8de8d2c0ff23a7382d679fbbcb7171acc2c80", func := "underpin/underpinlaw09.LedgerBack", spec := "ledgerBack", inPlace := ["maps.clone"], plainKeys := false, apart := false }
def LedgerBackSaid : Prop := ledgerBackRow.holds Try.pinned (OpenSpec.ofChange ledgerBackSpec)

/-- ITS FALSE NEIGHBOUR: 'it returns false'. Refute it at one input. -/
def ledgerBackWrong : ChangeSpec := { name := "ledgerBack", fn := fun _ => fun
  | [d1, d2, d3, d4] => { results := [.lit (.bool false)], args := [d1, d2, d3, d4] }
  | _ => none }
def LedgerBackWrongFalsely : Prop := ledgerBackRow.holds Try.pinned (OpenSpec.ofChange ledgerBackWrong)

/-- 'underpinlaw01.PackFields': WHATEVER THE INPUT: true; the input reads as it did. -/
def packFieldsSpec : ChangeSpec := { name := "packFields", fn := fun _ => fun
  | [d1, d2, d3] => { results := [.lit (.bool true)], args := [d1, d2, d3] }
  | _ => none }
def packFieldsRow : OpenClaim := { program := "ytgilmpfohlpbdaa", sum := "43cdea5190682b7076a2fa50bbd8de8d2c0ff23a7382d679fbbcb7171acc2c80", func := "underpin/underpinlaw01.PackFields", spec := "packFields", plainKeys := false, apart := false }
def PackFieldsSaid : Prop := packFieldsRow.holds Try.pinned (OpenSpec.ofChange packFieldsSpec)

/-- ITS FALSE NEIGHBOUR: 'it returns false'. Refute it at one input. -/
def packFieldsWrong : ChangeSpec := { name := "packFields", fn := fun _ => fun
  | [d1, d2, d3] => { results := [.lit (.bool false)], args := [d1, d2, d3] }
  | _ => none }
def PackFieldsWrongFalsely : Prop := packFieldsRow.holds Try.pinned (OpenSpec.ofChange packFieldsWrong)

/-- 'underpinlaw01.PackCuts': WHATEVER THE INPUT: true; the input reads as it did. -/
def packCutsSpec : ChangeSpec := { name := "packCuts", fn := fun _ => fun
  | [d1, d2, d3] => { results := [.lit (.bool true)], args := [d1, d2, d3] }
  | _ => none }
def packCutsRow : OpenClaim := { program := "ytgilmpfohlpbdaa", sum := "43cdea5190682b7076a2fa50bbd8de8d2c0ff23a7382d679fbbcb7171acc2c80", func := "underpin/underpinlaw01.PackCuts", spec := "packCuts", plainKeys := false, apart := false }
def PackCutsSaid : Prop := packCutsRow.holds Try.pinned (OpenSpec.ofChange packCutsSpec)

/-- ITS FALSE NEIGHBOUR: 'it returns false'. Refute it at one input. -/
def packCutsWrong : ChangeSpec := { name := "packCuts", fn := fun _ => fun
  | [d1, d2, d3] => { results := [.lit (.bool false)], args := [d1, d2, d3] }
  | _ => none }
def PackCutsWrongFalsely : Prop := packCutsRow.holds Try.pinned (OpenSpec.ofChange packCutsWrong)

/-- 'underpinlaw01.PackRows': WHATEVER THE INPUT: true; the input reads as it did. -/
def packRowsSpec : ChangeSpec := { name := "packRows", fn := fun _ => fun
  | [d1, d2, d3] => { results := [.lit (.bool true)], args := [d1, d2, d3] }
  | _ => none }
def packRowsRow : OpenClaim := { program := "ytgilmpfohlpbdaa", sum := "43cdea5190682b7076a2fa50bbd8de8d2c0ff23a7382d679fbbcb7171acc2c80", func := "underpin/underpinlaw01.PackRows", spec := "packRows", plainKeys := false, apart := false }
def PackRowsSaid : Prop := packRowsRow.holds Try.pinned (OpenSpec.ofChange packRowsSpec)

/-- ITS FALSE NEIGHBOUR: 'it returns false'. Refute it at one input. -/
def packRowsWrong : ChangeSpec := { name := "packRows", fn := fun _ => fun
  | [d1, d2, d3] => { results := [.lit (.bool false)], args := [d1, d2, d3] }
  | _ => none }
def PackRowsWrongFalsely : Prop := packRowsRow.holds Try.pinned (OpenSpec.ofChange packRowsWrong)

/-- 'underpinlaw01.PackTurns': WHATEVER THE INPUT: true; the input reads as it did. -/
def packTurnsSpec : ChangeSpec := { name := "packTurns", fn := fun _ => fun
  | [d1, d2, d3, d4] => { results := [.lit (.bool true)], args := [d1, d2, d3, d4] }
  | _ => none }
def packTurnsRow : OpenClaim := { program := "ytgilmpfohlpbdaa", sum := "43cdea5190682b7076a2fa50bbd8de8d2c0ff23a7382d679fbbcb7171acc2c80", func := "underpin/underpinlaw01.PackTurns", spec := "packTurns", plainKeys := false, apart := false }
def PackTurnsSaid : Prop := packTurnsRow.holds Try.pinned (OpenSpec.ofChange packTurnsSpec)

/-- ITS FALSE NEIGHBOUR: 'it returns false'. Refute it at one input. -/
def packTurnsWrong : ChangeSpec := { name := "packTurns", fn := fun _ => fun
  | [d1, d2, d3, d4] => { results := [.lit (.bool false)], args := [d1, d2, d3, d4] }
  | _ => none }
def PackTurnsWrongFalsely : Prop := packTurnsRow.holds Try.pinned (OpenSpec.ofChange packTurnsWrong)

/-- 'underpinlaw02.CellsApart': WHATEVER THE INPUT: true; the input reads as it did. -/
def cellsApartSpec : ChangeSpec := { name := "cellsApart", fn := fun _ => fun
  | [d1, d2, d3, d4, d5] => { results := [.lit (.bool true)], args := [d1, d2, d3, d4, d5] }
  | _ => none }
def cellsApartRow : OpenClaim := { program := "ytgilmpfohlpbdaa", sum := "43cdea5190682b7076a2fa50bbd8de8d2c0ff23a7382d679fbbcb7171acc2c80", func := "underpin/underpinlaw02.CellsApart", spec := "cellsApart", plainKeys := false, apart := false }
def CellsApartSaid : Prop := cellsApartRow.holds Try.pinned (OpenSpec.ofChange cellsApartSpec)

/-- ITS FALSE NEIGHBOUR: 'it returns false'. Refute it at one input. -/
def cellsApartWrong : ChangeSpec := { name := "cellsApart", fn := fun _ => fun
  | [d1, d2, d3, d4, d5] => { results := [.lit (.bool false)], args := [d1, d2, d3, d4, d5] }
  | _ => none }
def CellsApartWrongFalsely : Prop := cellsApartRow.holds Try.pinned (OpenSpec.ofChange cellsApartWrong)

/-- 'underpinlaw02.CellsCalls': WHATEVER THE INPUT: true; the input reads as it did. -/
def cellsCallsSpec : ChangeSpec := { name := "cellsCalls", fn := fun _ => fun
  | [d1, d2, d3, d4] => { results := [.lit (.bool true)], args := [d1, d2, d3, d4] }
  | _ => none }
def cellsCallsRow : OpenClaim := { program := "ytgilmpfohlpbdaa", sum := "43cdea5190682b7076a2fa50bbd8de8d2c0ff23a7382d679fbbcb7171acc2c80", func := "underpin/underpinlaw02.CellsCalls", spec := "cellsCalls", plainKeys := false, apart := false }
def CellsCallsSaid : Prop := cellsCallsRow.holds Try.pinned (OpenSpec.ofChange cellsCallsSpec)

/-- ITS FALSE NEIGHBOUR: 'it returns false'. Refute it at one input. -/
def cellsCallsWrong : ChangeSpec := { name := "cellsCalls", fn := fun _ => fun
  | [d1, d2, d3, d4] => { results := [.lit (.bool false)], args := [d1, d2, d3, d4] }
  | _ => none }
def CellsCallsWrongFalsely : Prop := cellsCallsRow.holds Try.pinned (OpenSpec.ofChange cellsCallsWrong)

/- THE SECOND FORM. 'bulk': how many values and letters a reading holds, each counted each time it is reached (what is shared counts as often as it is met; a slice's spare places count too). A statement '..UptoSaid' is the law's where the arguments, and the package variables that the reading takes, are together of bulk at most 1048576: NARROWER than '..Said'. Prove '..Said' where nothing that the law and all that it calls make is longer than what came in: it says more and counts as full. Else prove '..UptoSaid'. A law counts once. -/
mutual
def uptoBulk {H : Type} : DataW H → Nat
  | .lit (.string bytes) => bytes.length + 1
  | .lit _ => 1
  | .nil => 1
  | .ptr d => uptoBulk d + 1
  | .slice elems spare => uptoBulkAll elems + uptoBulkAll spare + 1
  | .agg parts => uptoBulkAll parts + 1
  | .iface _ d => uptoBulk d + 1
  | .map entries => uptoBulkEntries entries + 1
  | .held _ => 1
def uptoBulkAll {H : Type} : List (DataW H) → Nat
  | [] => 0
  | d :: r => uptoBulk d + uptoBulkAll r
def uptoBulkEntries {H : Type} : List (Lit × DataW H) → Nat
  | [] => 0
  | x :: r => uptoBulkEntry x + uptoBulkEntries r
def uptoBulkEntry {H : Type} : Lit × DataW H → Nat
  | (.string bytes, d) => bytes.length + uptoBulk d + 1
  | (_, d) => uptoBulk d + 1
 end
def uptoSmall : (H : Type) → List (DataW H) → Bool := fun _ ds => decide (uptoBulkAll ds ≤ 1048576)
def OpenSpec.upto (s : _root_.Go.ChangeSpec) : _root_.Go.OpenSpec := { _root_.Go.OpenSpec.ofChange s with cond := some uptoSmall }

/-- 'underpinlaw09.LedgerCalls', WHERE WHAT IT READS IS OF BULK AT MOST 1048576: true; the input reads as it did. -/
def ledgerCallsUptoRow : OpenClaim := { program := "ytgilmpfohlpbdaa", sum := "43cdea5190682b7076a2fa50bbd8de8d2c0ff23a7382d679fbbcb7171acc2c80", func := "underpin/underpinlaw09.LedgerCalls", spec := "ledgerCalls", plainKeys := false, apart := false, narrowed := true }
def LedgerCallsUptoSaid : Prop := ledgerCallsUptoRow.holds Try.pinned (OpenSpec.upto ledgerCallsSpec)

/-- 'underpinlaw09.LedgerBounds', WHERE WHAT IT READS IS OF BULK AT MOST 1048576: true; the input reads as it did. -/
def ledgerBoundsUptoRow : OpenClaim := { program := "ytgilmpfohlpbdaa", sum := "43cdea5190682b7076a2fa50bbd8de8d2c0ff23a7382d679fbbcb7171acc2c80", func := "underpin/underpinlaw09.LedgerBounds", spec := "ledgerBounds", plainKeys := false, apart := false, narrowed := true }
def LedgerBoundsUptoSaid : Prop := ledgerBoundsUptoRow.holds Try.pinned (OpenSpec.upto ledgerBoundsSpec)

/-- 'underpinlaw22.EpochCalls', WHERE WHAT IT READS IS OF BULK AT MOST 1048576: true; the input reads as it did. -/
def epochCallsUptoRow : OpenClaim := { program := "ytgilmpfohlpbdaa", sum := "43cdea5190682b7076a2fa50bbd8de8d2c0ff23a7382d679fbbcb7171acc2c80", func := "underpin/underpinlaw22.EpochCalls", spec := "epochCalls", inPlace := ["maps.clone"], plainKeys := false, apart := false, narrowed := true }
def EpochCallsUptoSaid : Prop := epochCallsUptoRow.holds Try.pinned (OpenSpec.upto epochCallsSpec)

/-- 'underpinlaw22.EpochSettles', WHERE WHAT IT READS IS OF BULK AT MOST 1048576: true; the input reads as it did. -/
def epochSettlesUptoRow : OpenClaim := { program := "ytgilmpfohlpbdaa", sum := "43cdea5190682b7076a2fa50bbd8de8d2c0ff23a7382d679fbbcb7171acc2c80", func := "underpin/underpinlaw22.EpochSettles", spec := "epochSettles", inPlace := ["maps.clone"], plainKeys := false, apart := false, narrowed := true }
def EpochSettlesUptoSaid : Prop := epochSettlesUptoRow.holds Try.pinned (OpenSpec.upto epochSettlesSpec)

/-- 'underpinlaw22.EpochRises', WHERE WHAT IT READS IS OF BULK AT MOST 1048576: true; the input reads as it did. -/
def epochRisesUptoRow : OpenClaim := { program := "ytgilmpfohlpbdaa", sum := "43cdea5190682b7076a2fa50bbd8de8d2c0ff23a7382d679fbbcb7171acc2c80", func := "underpin/underpinlaw22.EpochRises", spec := "epochRises", inPlace := ["maps.clone"], plainKeys := false, apart := false, narrowed := true }
def EpochRisesUptoSaid : Prop := epochRisesUptoRow.holds Try.pinned (OpenSpec.upto epochRisesSpec)

/-- 'underpinlaw09.LedgerBack', WHERE WHAT IT READS IS OF BULK AT MOST 1048576: true; the input reads as it did. -/
def ledgerBackUptoRow : OpenClaim := { program := "ytgilmpfohlpbdaa", sum := "43cdea5190682b7076a2fa50bbd8de8d2c0ff23a7382d679fbbcb7171acc2c80", func := "underpin/underpinlaw09.LedgerBack", spec := "ledgerBack", inPlace := ["maps.clone"], plainKeys := false, apart := false, narrowed := true }
def LedgerBackUptoSaid : Prop := ledgerBackUptoRow.holds Try.pinned (OpenSpec.upto ledgerBackSpec)

/-- 'underpinlaw01.PackFields', WHERE WHAT IT READS IS OF BULK AT MOST 1048576: true; the input reads as it did. -/
def packFieldsUptoRow : OpenClaim := { program := "ytgilmpfohlpbdaa", sum := "43cdea5190682b7076a2fa50bbd8de8d2c0ff23a7382d679fbbcb7171acc2c80", func := "underpin/underpinlaw01.PackFields", spec := "packFields", plainKeys := false, apart := false, narrowed := true }
def PackFieldsUptoSaid : Prop := packFieldsUptoRow.holds Try.pinned (OpenSpec.upto packFieldsSpec)

/-- 'underpinlaw01.PackCuts', WHERE WHAT IT READS IS OF BULK AT MOST 1048576: true; the input reads as it did. -/
def packCutsUptoRow : OpenClaim := { program := "ytgilmpfohlpbdaa", sum := "43cdea5190682b7076a2fa50bbd8de8d2c0ff23a7382d679fbbcb7171acc2c80", func := "underpin/underpinlaw01.PackCuts", spec := "packCuts", plainKeys := false, apart := false, narrowed := true }
def PackCutsUptoSaid : Prop := packCutsUptoRow.holds Try.pinned (OpenSpec.upto packCutsSpec)

/-- 'underpinlaw01.PackRows', WHERE WHAT IT READS IS OF BULK AT MOST 1048576: true; the input reads as it did. -/
def packRowsUptoRow : OpenClaim := { program := "ytgilmpfohlpbdaa", sum := "43cdea5190682b7076a2fa50bbd8de8d2c0ff23a7382d679fbbcb7171acc2c80", func := "underpin/underpinlaw01.PackRows", spec := "packRows", plainKeys := false, apart := false, narrowed := true }
def PackRowsUptoSaid : Prop := packRowsUptoRow.holds Try.pinned (OpenSpec.upto packRowsSpec)

/-- 'underpinlaw01.PackTurns', WHERE WHAT IT READS IS OF BULK AT MOST 1048576: true; the input reads as it did. -/
def packTurnsUptoRow : OpenClaim := { program := "ytgilmpfohlpbdaa", sum := "43cdea5190682b7076a2fa50bbd8de8d2c0ff23a7382d679fbbcb7171acc2c80", func := "underpin/underpinlaw01.PackTurns", spec := "packTurns", plainKeys := false, apart := false, narrowed := true }
def PackTurnsUptoSaid : Prop := packTurnsUptoRow.holds Try.pinned (OpenSpec.upto packTurnsSpec)

/-- 'underpinlaw02.CellsApart', WHERE WHAT IT READS IS OF BULK AT MOST 1048576: true; the input reads as it did. -/
def cellsApartUptoRow : OpenClaim := { program := "ytgilmpfohlpbdaa", sum := "43cdea5190682b7076a2fa50bbd8de8d2c0ff23a7382d679fbbcb7171acc2c80", func := "underpin/underpinlaw02.CellsApart", spec := "cellsApart", plainKeys := false, apart := false, narrowed := true }
def CellsApartUptoSaid : Prop := cellsApartUptoRow.holds Try.pinned (OpenSpec.upto cellsApartSpec)

/-- 'underpinlaw02.CellsCalls', WHERE WHAT IT READS IS OF BULK AT MOST 1048576: true; the input reads as it did. -/
def cellsCallsUptoRow : OpenClaim := { program := "ytgilmpfohlpbdaa", sum := "43cdea5190682b7076a2fa50bbd8de8d2c0ff23a7382d679fbbcb7171acc2c80", func := "underpin/underpinlaw02.CellsCalls", spec := "cellsCalls", plainKeys := false, apart := false, narrowed := true }
def CellsCallsUptoSaid : Prop := cellsCallsUptoRow.holds Try.pinned (OpenSpec.upto cellsCallsSpec)

end Rows
end Go.Proofs.Ytgilmpfohlpbdaa
