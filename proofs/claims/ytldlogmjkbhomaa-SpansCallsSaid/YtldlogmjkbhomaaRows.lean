/-
  No cell of these rows narrows 'for every input' (looked for: loops, veiled, ifaces, maps, wideKeys, modest, calm, conditions, laid).
  DERIVED. THE GIVEN ROWS OF THIS SEAT. 9 by the template 'for every input the law returns true; each argument reads behind the call as it read before'; 0 by the template 'total and deterministic' (their statements: YtldlogmjkbhomaaTotals.lean).
  GIVEN WITH THE SEED: the statements are not yours to turn. If you find one false, say at which input.
  Laid BY PROGRAM, IN A SANDBOX (cutbox-rows.mjs): the forced cells as the released guide's own fill.sh prints them over the translation 55dc6450bb01f983… (all of the seat's roots in one cut). By AI agents, Wed Nov 11 2026. No macro, syntax, notation, axiom, sorry.
-/
import Derived.Test.YtldlogmjkbhomaaChecked
import GoSem.Claim
import GoSem.ClaimJoined
import GoSem.ClaimMapViews
import Derived.JoinedTies
import Derived.KernelRfl
namespace Go.Proofs.Ytldlogmjkbhomaa
/- THE CELL 'sum', in the pinned program and in every row, IS THE sha256 OF THE DUMP (.gsa) THAT YtldlogmjkbhomaaProg.lean LOADS. Nothing in Lean hashes anything: it is a label: what it is worth is what the hold of that sum in a sandbox is worth. -/
noncomputable def Try.pinned : Pinned := { name := "ytldlogmjkbhomaa", sum := "55dc6450bb01f9837603d35cf04c2d738cdfe59363ce7ce32c2b99bf062906db", checked := Try.checked }
namespace Rows
def none {H : Type} : Left H := { results := [], args := [] }

/-- 'underpinlaw10.RadixCalls': WHATEVER THE INPUT: true; the input reads as it did. -/
def radixCallsSpec : ChangeSpec := { name := "radixCalls", fn := fun _ => fun
  | [d1, d2, d3, d4] => { results := [.lit (.bool true)], args := [d1, d2, d3, d4] }
  | _ => none }
def radixCallsRow : OpenClaim := { program := "ytldlogmjkbhomaa", sum := "55dc6450bb01f9837603d35cf04c2d738cdfe59363ce7ce32c2b99bf062906db", func := "underpin/underpinlaw10.RadixCalls", spec := "radixCalls", apart := false }
def RadixCallsSaid : Prop := radixCallsRow.holds Try.pinned (OpenSpec.ofChange radixCallsSpec)

/-- ITS FALSE NEIGHBOUR: 'it returns false'. Refute it at one input. -/
def radixCallsWrong : ChangeSpec := { name := "radixCalls", fn := fun _ => fun
  | [d1, d2, d3, d4] => { results := [.lit (.bool false)], args := [d1, d2, d3, d4] }
  | _ => none }
def RadixCallsWrongFalsely : Prop := radixCallsRow.holds Try.pinned (OpenSpec.ofChange radixCallsWrong)

/-- 'underpinlaw10.RadixTold': WHATEVER THE INPUT: true; the input reads as it did. -/
def radixToldSpec : ChangeSpec := { name := "radixTold", fn := fun _ => fun
  | [d1, d2, d3, d4, d5] => { results := [.lit (.bool true)], args := [d1, d2, d3, d4, d5] }
  | _ => none }
def radixToldRow : OpenClaim := { program := "ytldlogmjkbhomaa", sum := "55dc6450bb01f9837603d35cf04c2d738cdfe59363ce7ce32c2b99bf062906db", func := "underpin/underpinlaw10.RadixTold", spec := "radixTold", apart := false }
def RadixToldSaid : Prop := radixToldRow.holds Try.pinned (OpenSpec.ofChange radixToldSpec)

/-- ITS FALSE NEIGHBOUR: 'it returns false'. Refute it at one input. -/
def radixToldWrong : ChangeSpec := { name := "radixTold", fn := fun _ => fun
  | [d1, d2, d3, d4, d5] => { results := [.lit (.bool false)], args := [d1, d2, d3, d4, d5] }
  | _ => none }
def RadixToldWrongFalsely : Prop := radixToldRow.holds Try.pinned (OpenSpec.ofChange radixToldWrong)

/-- 'underpinlaw07.RingCalls': WHATEVER THE INPUT: true; the input reads as it did. -/
def ringCallsSpec : ChangeSpec := { name := "ringCalls", fn := fun _ => fun
  | [d1, d2, d3, d4] => { results := [.lit (.bool true)], args := [d1, d2, d3, d4] }
  | _ => none }
def ringCallsRow : OpenClaim := { program := "ytldlogmjkbhomaa", sum := "55dc6450bb01f9837603d35cf04c2d738cdfe59363ce7ce32c2b99bf062906db", func := "underpin/underpinlaw07.RingCalls", spec := "ringCalls", apart := false }
def RingCallsSaid : Prop := ringCallsRow.holds Try.pinned (OpenSpec.ofChange ringCallsSpec)

/-- ITS FALSE NEIGHBOUR: 'it returns false'. Refute it at one input. -/
def ringCallsWrong : ChangeSpec := { name := "ringCalls", fn := fun _ => fun
  | [d1, d2, d3, d4] => { results := [.lit (.bool false)], args := [d1, d2, d3, d4] }
  | _ => none }
def RingCallsWrongFalsely : Prop := ringCallsRow.holds Try.pinned (OpenSpec.ofChange ringCallsWrong)

/-- 'underpinlaw07.RingOnce': WHATEVER THE INPUT: true; the input reads as it did. -/
def ringOnceSpec : ChangeSpec := { name := "ringOnce", fn := fun _ => fun
  | [d1, d2, d3] => { results := [.lit (.bool true)], args := [d1, d2, d3] }
  | _ => none }
def ringOnceRow : OpenClaim := { program := "ytldlogmjkbhomaa", sum := "55dc6450bb01f9837603d35cf04c2d738cdfe59363ce7ce32c2b99bf062906db", func := "underpin/underpinlaw07.RingOnce", spec := "ringOnce", apart := false }
def RingOnceSaid : Prop := ringOnceRow.holds Try.pinned (OpenSpec.ofChange ringOnceSpec)

/-- ITS FALSE NEIGHBOUR: 'it returns false'. Refute it at one input. -/
def ringOnceWrong : ChangeSpec := { name := "ringOnce", fn := fun _ => fun
  | [d1, d2, d3] => { results := [.lit (.bool false)], args := [d1, d2, d3] }
  | _ => none }
def RingOnceWrongFalsely : Prop := ringOnceRow.holds Try.pinned (OpenSpec.ofChange ringOnceWrong)

/-- 'underpinlaw10.RadixStamps': WHATEVER THE INPUT: true; the input reads as it did. -/
def radixStampsSpec : ChangeSpec := { name := "radixStamps", fn := fun _ => fun
  | [d1, d2] => { results := [.lit (.bool true)], args := [d1, d2] }
  | _ => none }
def radixStampsRow : OpenClaim := { program := "ytldlogmjkbhomaa", sum := "55dc6450bb01f9837603d35cf04c2d738cdfe59363ce7ce32c2b99bf062906db", func := "underpin/underpinlaw10.RadixStamps", spec := "radixStamps", apart := false }
def RadixStampsSaid : Prop := radixStampsRow.holds Try.pinned (OpenSpec.ofChange radixStampsSpec)

/-- ITS FALSE NEIGHBOUR: 'it returns false'. Refute it at one input. -/
def radixStampsWrong : ChangeSpec := { name := "radixStamps", fn := fun _ => fun
  | [d1, d2] => { results := [.lit (.bool false)], args := [d1, d2] }
  | _ => none }
def RadixStampsWrongFalsely : Prop := radixStampsRow.holds Try.pinned (OpenSpec.ofChange radixStampsWrong)

/-- 'underpinlaw07.RingEach': WHATEVER THE INPUT: true; the input reads as it did. -/
def ringEachSpec : ChangeSpec := { name := "ringEach", fn := fun _ => fun
  | [d1, d2, d3, d4, d5] => { results := [.lit (.bool true)], args := [d1, d2, d3, d4, d5] }
  | _ => none }
def ringEachRow : OpenClaim := { program := "ytldlogmjkbhomaa", sum := "55dc6450bb01f9837603d35cf04c2d738cdfe59363ce7ce32c2b99bf062906db", func := "underpin/underpinlaw07.RingEach", spec := "ringEach", unfollowed := true, recurses := true, apart := false }
def RingEachSaid : Prop := ringEachRow.holds Try.pinned (OpenSpec.ofChange ringEachSpec)

/-- ITS FALSE NEIGHBOUR: 'it returns false'. Refute it at one input. -/
def ringEachWrong : ChangeSpec := { name := "ringEach", fn := fun _ => fun
  | [d1, d2, d3, d4, d5] => { results := [.lit (.bool false)], args := [d1, d2, d3, d4, d5] }
  | _ => none }
def RingEachWrongFalsely : Prop := ringEachRow.holds Try.pinned (OpenSpec.ofChange ringEachWrong)

/-- 'underpinlaw08.SpansCalls': WHATEVER THE INPUT: true; the input reads as it did. -/
def spansCallsSpec : ChangeSpec := { name := "spansCalls", fn := fun _ => fun
  | [d1, d2, d3, d4] => { results := [.lit (.bool true)], args := [d1, d2, d3, d4] }
  | _ => none }
def spansCallsRow : OpenClaim := { program := "ytldlogmjkbhomaa", sum := "55dc6450bb01f9837603d35cf04c2d738cdfe59363ce7ce32c2b99bf062906db", func := "underpin/underpinlaw08.SpansCalls", spec := "spansCalls", inPlace := ["slices.overlaps[underpin/spans.Run]"], unfollowed := true, recurses := true, apart := false }
def SpansCallsSaid : Prop := spansCallsRow.holds Try.pinned (OpenSpec.ofChange spansCallsSpec)

/-- ITS FALSE NEIGHBOUR: 'it returns false'. Refute it at one input. -/
def spansCallsWrong : ChangeSpec := { name := "spansCalls", fn := fun _ => fun
  | [d1, d2, d3, d4] => { results := [.lit (.bool false)], args := [d1, d2, d3, d4] }
  | _ => none }
def SpansCallsWrongFalsely : Prop := spansCallsRow.holds Try.pinned (OpenSpec.ofChange spansCallsWrong)

/-- 'underpinlaw08.SpansApart': WHATEVER THE INPUT: true; the input reads as it did. -/
def spansApartSpec : ChangeSpec := { name := "spansApart", fn := fun _ => fun
  | [d1, d2] => { results := [.lit (.bool true)], args := [d1, d2] }
  | _ => none }
def spansApartRow : OpenClaim := { program := "ytldlogmjkbhomaa", sum := "55dc6450bb01f9837603d35cf04c2d738cdfe59363ce7ce32c2b99bf062906db", func := "underpin/underpinlaw08.SpansApart", spec := "spansApart", inPlace := ["slices.overlaps[underpin/spans.Run]"], unfollowed := true, recurses := true, apart := false }
def SpansApartSaid : Prop := spansApartRow.holds Try.pinned (OpenSpec.ofChange spansApartSpec)

/-- ITS FALSE NEIGHBOUR: 'it returns false'. Refute it at one input. -/
def spansApartWrong : ChangeSpec := { name := "spansApart", fn := fun _ => fun
  | [d1, d2] => { results := [.lit (.bool false)], args := [d1, d2] }
  | _ => none }
def SpansApartWrongFalsely : Prop := spansApartRow.holds Try.pinned (OpenSpec.ofChange spansApartWrong)

/-- 'underpinlaw08.SpansBack': WHATEVER THE INPUT: true; the input reads as it did. -/
def spansBackSpec : ChangeSpec := { name := "spansBack", fn := fun _ => fun
  | [d1, d2, d3] => { results := [.lit (.bool true)], args := [d1, d2, d3] }
  | _ => none }
def spansBackRow : OpenClaim := { program := "ytldlogmjkbhomaa", sum := "55dc6450bb01f9837603d35cf04c2d738cdfe59363ce7ce32c2b99bf062906db", func := "underpin/underpinlaw08.SpansBack", spec := "spansBack", inPlace := ["slices.overlaps[underpin/spans.Run]"], unfollowed := true, recurses := true, apart := false }
def SpansBackSaid : Prop := spansBackRow.holds Try.pinned (OpenSpec.ofChange spansBackSpec)

/-- ITS FALSE NEIGHBOUR: 'it returns false'. Refute it at one input. -/
def spansBackWrong : ChangeSpec := { name := "spansBack", fn := fun _ => fun
  | [d1, d2, d3] => { results := [.lit (.bool false)], args := [d1, d2, d3] }
  | _ => none }
def SpansBackWrongFalsely : Prop := spansBackRow.holds Try.pinned (OpenSpec.ofChange spansBackWrong)

/- THE SECOND FORM. 'bulk': how many values and letters a reading holds, each counted each time it is reached (what is shared counts as often as it is met; a slice's spare places count too). A statement '..UptoSaid' is the law's where the arguments, and the package variables that the reading takes, are together of bulk at most 1048576: NARROWER than '..Said'. Prove '..Said' where nothing that the law and all that it calls make is longer than what came in: it says more and counts as full. Else prove '..UptoSaid'. A law counts once. -/
mutual
def uptoBulk {H : Type} : DataW H → Nat
  | .lit (.string bytes) => bytes.length + 1
  | .lit _ => 1
  | .nil => 1
  | .ptr d => uptoBulk d + 1
  | .slice elems spare => uptoBulkAll elems + uptoBulkAll spare + 1
  | .agg parts => uptoBulkAll parts + 1
  | .iface _ d => uptoBulk d + 1
  | .map entries => uptoBulkEntries entries + 1
  | .held _ => 1
def uptoBulkAll {H : Type} : List (DataW H) → Nat
  | [] => 0
  | d :: r => uptoBulk d + uptoBulkAll r
def uptoBulkEntries {H : Type} : List (Lit × DataW H) → Nat
  | [] => 0
  | x :: r => uptoBulkEntry x + uptoBulkEntries r
def uptoBulkEntry {H : Type} : Lit × DataW H → Nat
  | (.string bytes, d) => bytes.length + uptoBulk d + 1
  | (_, d) => uptoBulk d + 1
 end
def uptoSmall : (H : Type) → List (DataW H) → Bool := fun _ ds => decide (uptoBulkAll ds ≤ 1048576)
def OpenSpec.upto (s : _root_.Go.ChangeSpec) : _root_.Go.OpenSpec := { _root_.Go.OpenSpec.ofChange s with cond := some uptoSmall }

/-- 'underpinlaw10.RadixCalls', WHERE WHAT IT READS IS OF BULK AT MOST 1048576: true; the input reads as it did. -/
def radixCallsUptoRow : OpenClaim := { program := "ytldlogmjkbhomaa", sum := "55dc6450bb01f9837603d35cf04c2d738cdfe59363ce7ce32c2b99bf062906db", func := "underpin/underpinlaw10.RadixCalls", spec := "radixCalls", apart := false, narrowed := true }
def RadixCallsUptoSaid : Prop := radixCallsUptoRow.holds Try.pinned (OpenSpec.upto radixCallsSpec)

/-- 'underpinlaw10.RadixTold', WHERE WHAT IT READS IS OF BULK AT MOST 1048576: true; the input reads as it did. -/
def radixToldUptoRow : OpenClaim := { program := "ytldlogmjkbhomaa", sum := "55dc6450bb01f9837603d35cf04c2d738cdfe59363ce7ce32c2b99bf062906db", func := "underpin/underpinlaw10.RadixTold", spec := "radixTold", apart := false, narrowed := true }
def RadixToldUptoSaid : Prop := radixToldUptoRow.holds Try.pinned (OpenSpec.upto radixToldSpec)

/-- 'underpinlaw07.RingCalls', WHERE WHAT IT READS IS OF BULK AT MOST 1048576: true; the input reads as it did. -/
def ringCallsUptoRow : OpenClaim := { program := "ytldlogmjkbhomaa", sum := "55dc6450bb01f9837603d35cf04c2d738cdfe59363ce7ce32c2b99bf062906db", func := "underpin/underpinlaw07.RingCalls", spec := "ringCalls", apart := false, narrowed := true }
def RingCallsUptoSaid : Prop := ringCallsUptoRow.holds Try.pinned (OpenSpec.upto ringCallsSpec)

/-- 'underpinlaw07.RingOnce', WHERE WHAT IT READS IS OF BULK AT MOST 1048576: true; the input reads as it did. -/
def ringOnceUptoRow : OpenClaim := { program := "ytldlogmjkbhomaa", sum := "55dc6450bb01f9837603d35cf04c2d738cdfe59363ce7ce32c2b99bf062906db", func := "underpin/underpinlaw07.RingOnce", spec := "ringOnce", apart := false, narrowed := true }
def RingOnceUptoSaid : Prop := ringOnceUptoRow.holds Try.pinned (OpenSpec.upto ringOnceSpec)

/-- 'underpinlaw10.RadixStamps', WHERE WHAT IT READS IS OF BULK AT MOST 1048576: true; the input reads as it did. -/
def radixStampsUptoRow : OpenClaim := { program := "ytldlogmjkbhomaa", sum := "55dc6450bb01f9837603d35cf04c2d738cdfe59363ce7ce32c2b99bf062906db", func := "underpin/underpinlaw10.RadixStamps", spec := "radixStamps", apart := false, narrowed := true }
def RadixStampsUptoSaid : Prop := radixStampsUptoRow.holds Try.pinned (OpenSpec.upto radixStampsSpec)

/-- 'underpinlaw07.RingEach', WHERE WHAT IT READS IS OF BULK AT MOST 1048576: true; the input reads as it did. -/
def ringEachUptoRow : OpenClaim := { program := "ytldlogmjkbhomaa", sum := "55dc6450bb01f9837603d35cf04c2d738cdfe59363ce7ce32c2b99bf062906db", func := "underpin/underpinlaw07.RingEach", spec := "ringEach", unfollowed := true, recurses := true, apart := false, narrowed := true }
def RingEachUptoSaid : Prop := ringEachUptoRow.holds Try.pinned (OpenSpec.upto ringEachSpec)

/-- 'underpinlaw08.SpansCalls', WHERE WHAT IT READS IS OF BULK AT MOST 1048576: true; the input reads as it did. -/
def spansCallsUptoRow : OpenClaim := { program := "ytldlogmjkbhomaa", sum := "55dc6450bb01f9837603d35cf04c2d738cdfe59363ce7ce32c2b99bf062906db", func := "underpin/underpinlaw08.SpansCalls", spec := "spansCalls", inPlace := ["slices.overlaps[underpin/spans.Run]"], unfollowed := true, recurses := true, apart := false, narrowed := true }
def SpansCallsUptoSaid : Prop := spansCallsUptoRow.holds Try.pinned (OpenSpec.upto spansCallsSpec)

/-- 'underpinlaw08.SpansApart', WHERE WHAT IT READS IS OF BULK AT MOST 1048576: true; the input reads as it did. -/
def spansApartUptoRow : OpenClaim := { program := "ytldlogmjkbhomaa", sum := "55dc6450bb01f9837603d35cf04c2d738cdfe59363ce7ce32c2b99bf062906db", func := "underpin/underpinlaw08.SpansApart", spec := "spansApart", inPlace := ["slices.overlaps[underpin/spans.Run]"], unfollowed := true, recurses := true, apart := false, narrowed := true }
def SpansApartUptoSaid : Prop := spansApartUptoRow.holds Try.pinned (OpenSpec.upto spansApartSpec)

/-- 'underpinlaw08.SpansBack', WHERE WHAT IT READS IS OF BULK AT MOST 1048576: true; the input reads as it did. -/
def spansBackUptoRow : OpenClaim := { program := "ytldlogmjkbhomaa", sum := "55dc6450bb01f9837603d35cf04c2d738cdfe59363ce7ce32c2b99bf062906db", func := "underpin/underpinlaw08.SpansBack", spec := "spansBack", inPlace := ["slices.overlaps[underpin/spans.Run]"], unfollowed := true, recurses := true, apart := false, narrowed := true }
def SpansBackUptoSaid : Prop := spansBackUptoRow.holds Try.pinned (OpenSpec.upto spansBackSpec)

end Rows
end Go.Proofs.Ytldlogmjkbhomaa
