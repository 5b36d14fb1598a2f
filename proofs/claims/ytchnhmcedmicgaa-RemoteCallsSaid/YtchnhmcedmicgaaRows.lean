/-
  No cell of these rows narrows 'for every input' (looked for: loops, veiled, ifaces, maps, wideKeys, modest, calm, conditions, laid).
  DERIVED. THE GIVEN ROWS OF THIS SEAT. 9 by the template 'for every input the law returns true; each argument reads behind the call as it read before'; 0 by the template 'total and deterministic' (their statements: YtchnhmcedmicgaaTotals.lean).
  GIVEN WITH THE SEED: the statements are not yours to turn. If you find one false, say at which input.
  Laid BY PROGRAM, IN A SANDBOX (cutbox-rows.mjs): the forced cells as the released guide's own fill.sh prints them over the translation 88ef400ca3fae1ee… (all of the seat's roots in one cut). By AI agents, Wed Nov 11 2026. No macro, syntax, notation, axiom, sorry.
-/
import Derived.Test.YtchnhmcedmicgaaChecked
import GoSem.Claim
import GoSem.ClaimJoined
import GoSem.ClaimMapViews
import Derived.JoinedTies
import Derived.KernelRfl
namespace Go.Proofs.Ytchnhmcedmicgaa
/- THE CELL 'sum', in the pinned program and in every row, IS THE sha256 OF THE DUMP (.gsa) THAT YtchnhmcedmicgaaProg.lean LOADS. Nothing in Lean hashes anything: it is a label: what it is worth is what the hold of that sum in a sandbox is worth. -/
noncomputable def Try.pinned : Pinned := { name := "ytchnhmcedmicgaa", sum := "88ef400ca3fae1ee5bfbf438b23cb163e7b9f802e121a16f526d6367e4317c46", checked := Try.checked }
namespace Rows
def none {H : Type} : Left H := { results := [], args := [] }

/-- 'underpinlaw09.LedgerCalls': WHATEVER THE INPUT: true; the input reads as it did. -/
def ledgerCallsSpec : ChangeSpec := { name := "ledgerCalls", fn := fun _ => fun
  | [d1, d2, d3, d4] => { results := [.lit (.bool true)], args := [d1, d2, d3, d4] }
  | _ => none }
def ledgerCallsRow : OpenClaim := { program := "ytchnhmcedmicgaa", sum := "88ef400ca3fae1ee5bfbf438b23cb163e7b9f802e121a16f526d6367e4317c46", func := "underpin/underpinlaw09.LedgerCalls", spec := "ledgerCalls", plainKeys := false, apart := false }
def LedgerCallsSaid : Prop := ledgerCallsRow.holds Try.pinned (OpenSpec.ofChange ledgerCallsSpec)

/-- ITS FALSE NEIGHBOUR: 'it returns false'. Refute it at one input. -/
def ledgerCallsWrong : ChangeSpec := { name := "ledgerCalls", fn := fun _ => fun
  | [d1, d2, d3, d4] => { results := [.lit (.bool false)], args := [d1, d2, d3, d4] }
  | _ => none }
def LedgerCallsWrongFalsely : Prop := ledgerCallsRow.holds Try.pinned (OpenSpec.ofChange ledgerCallsWrong)

/-- 'underpinlaw09.LedgerBounds': WHATEVER THE INPUT: true; the input reads as it did. -/
def ledgerBoundsSpec : ChangeSpec := { name := "ledgerBounds", fn := fun _ => fun
  | [d1, d2] => { results := [.lit (.bool true)], args := [d1, d2] }
  | _ => none }
def ledgerBoundsRow : OpenClaim := { program := "ytchnhmcedmicgaa", sum := "88ef400ca3fae1ee5bfbf438b23cb163e7b9f802e121a16f526d6367e4317c46", func := "underpin/underpinlaw09.LedgerBounds", spec := "ledgerBounds", plainKeys := false, apart := false }
def LedgerBoundsSaid : Prop := ledgerBoundsRow.holds Try.pinned (OpenSpec.ofChange ledgerBoundsSpec)

/-- ITS FALSE NEIGHBOUR: 'it returns false'. Refute it at one input. -/
def ledgerBoundsWrong : ChangeSpec := { name := "ledgerBounds", fn := fun _ => fun
  | [d1, d2] => { results := [.lit (.bool false)], args := [d1, d2] }
  | _ => none }
def LedgerBoundsWrongFalsely : Prop := ledgerBoundsRow.holds Try.pinned (OpenSpec.ofChange ledgerBoundsWrong)

/-- 'underpinlaw22.EpochCalls': WHATEVER THE INPUT: true; the input reads as it did. -/
def epochCallsSpec : ChangeSpec := { name := "epochCalls", fn := fun _ => fun
  | [d1, d2, d3, d4] => { results := [.lit (.bool true)], args := [d1, d2, d3, d4] }
  | _ => none }
def epochCallsRow : OpenClaim := { program := "ytchnhmcedmicgaa", sum := "88ef400ca3fae1ee5bfbf438b23cb163e7b9f802e121a16f526d6367e4317c46", func := "underpin/underpinlaw22.EpochCalls", spec := "epochCalls", inPlace := ["maps.clone"], plainKeys := false, apart := false }
def EpochCallsSaid : Prop := epochCallsRow.holds Try.pinned (OpenSpec.ofChange epochCallsSpec)

/-- ITS FALSE NEIGHBOUR: 'it returns false'. Refute it at one input. -/
def epochCallsWrong : ChangeSpec := { name := "epochCalls", fn := fun _ => fun
  | [d1, d2, d3, d4] => { results := [.lit (.bool false)], args := [d1, d2, d3, d4] }
  | _ => none }
def EpochCallsWrongFalsely : Prop := epochCallsRow.holds Try.pinned (OpenSpec.ofChange epochCallsWrong)

/-- 'underpinlaw22.EpochSettles': WHATEVER THE INPUT: true; the input reads as it did. -/
def epochSettlesSpec : ChangeSpec := { name := "epochSettles", fn := fun _ => fun
  | [d1, d2, d3] => { results := [.lit (.bool true)], args := [d1, d2, d3] }
  | _ => none }
def epochSettlesRow : OpenClaim := { program := "ytchnhmcedmicgaa", sum := "88ef400ca3fae1ee5bfbf438b23cb163e7b9f802e121a16f526d6367e4317c46", func := "underpin/underpinlaw22.EpochSettles", spec := "epochSettles", inPlace := ["maps.clone"], plainKeys := false, apart := false }
def EpochSettlesSaid : Prop := epochSettlesRow.holds Try.pinned (OpenSpec.ofChange epochSettlesSpec)

/-- ITS FALSE NEIGHBOUR: 'it returns false'. Refute it at one input. -/
def epochSettlesWrong : ChangeSpec := { name := "epochSettles", fn := fun _ => fun
  | [d1, d2, d3] => { results := [.lit (.bool false)], args := [d1, d2, d3] }
  | _ => none }
def EpochSettlesWrongFalsely : Prop := epochSettlesRow.holds Try.pinned (OpenSpec.ofChange epochSettlesWrong)

/-- 'underpinlaw22.EpochRises': WHATEVER THE INPUT: true; the input reads as it did. -/
def epochRisesSpec : ChangeSpec := { name := "epochRises", fn := fun _ => fun
  | [d1, d2, d3] => { results := [.lit (.bool true)], args := [d1, d2, d3] }
  | _ => none }
def epochRisesRow : OpenClaim := { program := "ytchnhmcedmicgaa", sum := "88ef400ca3fae1ee5bfbf438b23cb163e7b9f802e121a16f526d6367e4317c46", func := "underpin/underpinlaw22.EpochRises", spec := "epochRises", inPlace := ["maps.clone"], plainKeys := false, apart := false }
def EpochRisesSaid : Prop := epochRisesRow.holds Try.pinned (OpenSpec.ofChange epochRisesSpec)

/-- ITS FALSE NEIGHBOUR: 'it returns false'. Refute it at one input. -/
def epochRisesWrong : ChangeSpec := { name := "epochRises", fn := fun _ => fun
  | [d1, d2, d3] => { results := [.lit (.bool false)], args := [d1, d2, d3] }
  | _ => none }
def EpochRisesWrongFalsely : Prop := epochRisesRow.holds Try.pinned (OpenSpec.ofChange epochRisesWrong)

/-- 'underpinlaw09.LedgerBack': WHATEVER THE INPUT: true; the input reads as it did. -/
def ledgerBackSpec : ChangeSpec := { name := "ledgerBack", fn := fun _ => fun
  | [d1, d2, d3, d4] => { results := [.lit (.bool true)], args := [d1, d2, d3, d4] }
  | _ => none }
def ledgerBackRow : OpenClaim := { program := "ytchnhmcedmicgaa", sum := "88ef400ca3fae1ee5bfbf438b23cb163e7b9f802e121a16f526d6367e4317c46", func := "underpin/underpinlaw09.LedgerBack", spec := "ledgerBack", inPlace := ["maps.clone"], plainKeys := false, apart := false }
def LedgerBackSaid : Prop := ledgerBackRow.holds Try.pinned (OpenSpec.ofChange ledgerBackSpec)

/-- ITS FALSE NEIGHBOUR: 'it returns false'. Refute it at one input. -/
def ledgerBackWrong : ChangeSpec := { name := "ledgerBack", fn := fun _ => fun
  | [d1, d2, d3, d4] => { results := [.lit (.bool false)], args := [d1, d2, d3, d4] }
  | _ => none }
def LedgerBackWrongFalsely : Prop := ledgerBackRow.holds Try.pinned (OpenSpec.ofChange ledgerBackWrong)

/-- 'underpinlaw20.RemoteOrder': WHATEVER THE INPUT: true; the input reads as it did. -/
def remoteOrderSpec : ChangeSpec := { name := "remoteOrder", fn := fun _ => fun
  | [d1, d2] => { results := [.lit (.bool true)], args := [d1, d2] }
  | _ => none }
def remoteOrderRow : OpenClaim := { program := "ytchnhmcedmicgaa", sum := "88ef400ca3fae1ee5bfbf438b23cb163e7b9f802e121a16f526d6367e4317c46", func := "underpin/underpinlaw20.RemoteOrder", spec := "remoteOrder", inPlace := ["maps.clone"], unfollowed := true, recurses := true, plainKeys := false, apart := false }
def RemoteOrderSaid : Prop := remoteOrderRow.holds Try.pinned (OpenSpec.ofChange remoteOrderSpec)

/-- ITS FALSE NEIGHBOUR: 'it returns false'. Refute it at one input. -/
def remoteOrderWrong : ChangeSpec := { name := "remoteOrder", fn := fun _ => fun
  | [d1, d2] => { results := [.lit (.bool false)], args := [d1, d2] }
  | _ => none }
def RemoteOrderWrongFalsely : Prop := remoteOrderRow.holds Try.pinned (OpenSpec.ofChange remoteOrderWrong)

/-- 'underpinlaw20.RemoteEmpty': WHATEVER THE INPUT: true; the input reads as it did. -/
def remoteEmptySpec : ChangeSpec := { name := "remoteEmpty", fn := fun _ => fun
  | [d1, d2, d3] => { results := [.lit (.bool true)], args := [d1, d2, d3] }
  | _ => none }
def remoteEmptyRow : OpenClaim := { program := "ytchnhmcedmicgaa", sum := "88ef400ca3fae1ee5bfbf438b23cb163e7b9f802e121a16f526d6367e4317c46", func := "underpin/underpinlaw20.RemoteEmpty", spec := "remoteEmpty", inPlace := ["maps.clone"], unfollowed := true, recurses := true, plainKeys := false, apart := false }
def RemoteEmptySaid : Prop := remoteEmptyRow.holds Try.pinned (OpenSpec.ofChange remoteEmptySpec)

/-- ITS FALSE NEIGHBOUR: 'it returns false'. Refute it at one input. -/
def remoteEmptyWrong : ChangeSpec := { name := "remoteEmpty", fn := fun _ => fun
  | [d1, d2, d3] => { results := [.lit (.bool false)], args := [d1, d2, d3] }
  | _ => none }
def RemoteEmptyWrongFalsely : Prop := remoteEmptyRow.holds Try.pinned (OpenSpec.ofChange remoteEmptyWrong)

/-- 'underpinlaw20.RemoteCalls': WHATEVER THE INPUT: true; the input reads as it did. -/
def remoteCallsSpec : ChangeSpec := { name := "remoteCalls", fn := fun _ => fun
  | [d1, d2, d3, d4, d5] => { results := [.lit (.bool true)], args := [d1, d2, d3, d4, d5] }
  | _ => none }
def remoteCallsRow : OpenClaim := { program := "ytchnhmcedmicgaa", sum := "88ef400ca3fae1ee5bfbf438b23cb163e7b9f802e121a16f526d6367e4317c46", func := "underpin/underpinlaw20.RemoteCalls", spec := "remoteCalls", inPlace := ["maps.clone"], unfollowed := true, recurses := true, plainKeys := false, apart := false }
def RemoteCallsSaid : Prop := remoteCallsRow.holds Try.pinned (OpenSpec.ofChange remoteCallsSpec)

/-- ITS FALSE NEIGHBOUR: 'it returns false'. Refute it at one input. -/
def remoteCallsWrong : ChangeSpec := { name := "remoteCalls", fn := fun _ => fun
  | [d1, d2, d3, d4, d5] => { results := [.lit (.bool false)], args := [d1, d2, d3, d4, d5] }
  | _ => none }
def RemoteCallsWrongFalsely : Prop := remoteCallsRow.holds Try.pinned (OpenSpec.ofChange remoteCallsWrong)

/- THE SECOND FORM. 'bulk': how many values and letters a reading holds, each counted each time it is reached (what is shared counts as often as it is met; a slice's spare places count too). A statement '..UptoSaid' is the law's where the arguments, and the package variables that the reading takes, are together of bulk at most 1048576: NARROWER than '..Said'. Prove '..Said' where nothing that the law and all that it calls make is longer than what came in: it says more and counts as full. Else prove '..UptoSaid'. A law counts once. -/
mutual
def uptoBulk {H : Type} : DataW H → Nat
  | .lit (.string bytes) => bytes.length + 1
  | .lit _ => 1
  | .nil => 1
  | .ptr d => uptoBulk d + 1
  | .slice elems spare => uptoBulkAll elems + uptoBulkAll spare + 1
  | .agg parts => uptoBulkAll parts + 1
  | .iface _ d => uptoBulk d + 1
  | .map entries => uptoBulkEntries entries + 1
  | .held _ => 1
def uptoBulkAll {H : Type} : List (DataW H) → Nat
  | [] => 0
  | d :: r => uptoBulk d + uptoBulkAll r
def uptoBulkEntries {H : Type} : List (Lit × DataW H) → Nat
  | [] => 0
  | x :: r => uptoBulkEntry x + uptoBulkEntries r
def uptoBulkEntry {H : Type} : Lit × DataW H → Nat
  | (.string bytes, d) => bytes.length + uptoBulk d + 1
  | (_, d) => uptoBulk d + 1
 end
def uptoSmall : (H : Type) → List (DataW H) → Bool := fun _ ds => decide (uptoBulkAll ds ≤ 1048576)
def OpenSpec.upto (s : _root_.Go.ChangeSpec) : _root_.Go.OpenSpec := { _root_.Go.OpenSpec.ofChange s with cond := some uptoSmall }

/-- 'underpinlaw09.LedgerCalls', WHERE WHAT IT READS IS OF BULK AT MOST 1048576: true; the input reads as it did. -/
def ledgerCallsUptoRow : OpenClaim := { program := "ytchnhmcedmicgaa", sum := "88ef400ca3fae1ee5bfbf438b23cb163e7b9f802e121a16f526d6367e4317c46", func := "underpin/underpinlaw09.LedgerCalls", spec := "ledgerCalls", plainKeys := false, apart := false, narrowed := true }
def LedgerCallsUptoSaid : Prop := ledgerCallsUptoRow.holds Try.pinned (OpenSpec.upto ledgerCallsSpec)

/-- 'underpinlaw09.LedgerBounds', WHERE WHAT IT READS IS OF BULK AT MOST 1048576: true; the input reads as it did. -/
def ledgerBoundsUptoRow : OpenClaim := { program := "ytchnhmcedmicgaa", sum := "88ef400ca3fae1ee5bfbf438b23cb163e7b9f802e121a16f526d6367e4317c46", func := "underpin/underpinlaw09.LedgerBounds", spec := "ledgerBounds", plainKeys := false, apart := false, narrowed := true }
def LedgerBoundsUptoSaid : Prop := ledgerBoundsUptoRow.holds Try.pinned (OpenSpec.upto ledgerBoundsSpec)

/-- 'underpinlaw22.EpochCalls', WHERE WHAT IT READS IS OF BULK AT MOST 1048576: true; the input reads as it did. -/
def epochCallsUptoRow : OpenClaim := { program := "ytchnhmcedmicgaa", sum := "88ef400ca3fae1ee5bfbf438b23cb163e7b9f802e121a16f526d6367e4317c46", func := "underpin/underpinlaw22.EpochCalls", spec := "epochCalls", inPlace := ["maps.clone"], plainKeys := false, apart := false, narrowed := true }
def EpochCallsUptoSaid : Prop := epochCallsUptoRow.holds Try.pinned (OpenSpec.upto epochCallsSpec)

/-- 'underpinlaw22.EpochSettles', WHERE WHAT IT READS IS OF BULK AT MOST 1048576: true; the input reads as it did. -/
def epochSettlesUptoRow : OpenClaim := { program := "ytchnhmcedmicgaa", sum := "88ef400ca3fae1ee5bfbf438b23cb163e7b9f802e121a16f526d6367e4317c46", func := "underpin/underpinlaw22.EpochSettles", spec := "epochSettles", inPlace := ["maps.clone"], plainKeys := false, apart := false, narrowed := true }
def EpochSettlesUptoSaid : Prop := epochSettlesUptoRow.holds Try.pinned (OpenSpec.upto epochSettlesSpec)

/-- 'underpinlaw22.EpochRises', WHERE WHAT IT READS IS OF BULK AT MOST 1048576: true; the input reads as it did. -/
def epochRisesUptoRow : OpenClaim := { program := "ytchnhmcedmicgaa", sum := "88ef400ca3fae1ee5bfbf438b23cb163e7b9f802e121a16f526d6367e4317c46", func := "underpin/underpinlaw22.EpochRises", spec := "epochRises", inPlace := ["maps.clone"], plainKeys := false, apart := false, narrowed := true }
def EpochRisesUptoSaid : Prop := epochRisesUptoRow.holds Try.pinned (OpenSpec.upto epochRisesSpec)

/-- 'underpinlaw09.LedgerBack', WHERE WHAT IT READS IS OF BULK AT MOST 1048576: true; the input reads as it did. -/
def ledgerBackUptoRow : OpenClaim := { program := "ytchnhmcedmicgaa", sum := "88ef400ca3fae1ee5bfbf438b23cb163e7b9f802e121a16f526d6367e4317c46", func := "underpin/underpinlaw09.LedgerBack", spec := "ledgerBack", inPlace := ["maps.clone"], plainKeys := false, apart := false, narrowed := true }
def LedgerBackUptoSaid : Prop := ledgerBackUptoRow.holds Try.pinned (OpenSpec.upto ledgerBackSpec)

/-- 'underpinlaw20.RemoteOrder', WHERE WHAT IT READS IS OF BULK AT MOST 1048576: true; the input reads as it did. -/
def remoteOrderUptoRow : OpenClaim := { program := "ytchnhmcedmicgaa", sum := "88ef400ca3fae1ee5bfbf438b23cb163e7b9f802e121a16f526d6367e4317c46", func := "underpin/underpinlaw20.RemoteOrder", spec := "remoteOrder", inPlace := ["maps.clone"], unfollowed := true, recurses := true, plainKeys := false, apart := false, narrowed := true }
def RemoteOrderUptoSaid : Prop := remoteOrderUptoRow.holds Try.pinned (OpenSpec.upto remoteOrderSpec)

/-- 'underpinlaw20.RemoteEmpty', WHERE WHAT IT READS IS OF BULK AT MOST 1048576: true; the input reads as it did. -/
def remoteEmptyUptoRow : OpenClaim := { program := "ytchnhmcedmicgaa", sum := "88ef400ca3fae1ee5bfbf438b23cb163e7b9f802e121a16f526d6367e4317c46", func := "underpin/underpinlaw20.RemoteEmpty", spec := "remoteEmpty", inPlace := ["maps.clone"], unfollowed := true, recurses := true, plainKeys := false, apart := false, narrowed := true }
def RemoteEmptyUptoSaid : Prop := remoteEmptyUptoRow.holds Try.pinned (OpenSpec.upto remoteEmptySpec)

/-- 'underpinlaw20.RemoteCalls', WHERE WHAT IT READS IS OF BULK AT MOST 1048576: true; the input reads as it did. -/
def remoteCallsUptoRow : OpenClaim := { program := "ytchnhmcedmicgaa", sum := "88ef400ca3fae1ee5bfbf438b23cb163e7b9f802e121a16f526d6367e4317c46", func := "underpin/underpinlaw20.RemoteCalls", spec := "remoteCalls", inPlace := ["maps.clone"], unfollowed := true, recurses := true, plainKeys := false, apart := false, narrowed := true }
def RemoteCallsUptoSaid : Prop := remoteCallsUptoRow.holds Try.pinned (OpenSpec.upto remoteCallsSpec)

end Rows
end Go.Proofs.Ytchnhmcedmicgaa
