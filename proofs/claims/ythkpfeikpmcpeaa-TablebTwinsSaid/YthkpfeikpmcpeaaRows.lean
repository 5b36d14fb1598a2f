/-
  No cell of these rows narrows 'for every input' (looked for: loops, veiled, ifaces, maps, wideKeys, modest, calm, conditions, laid).
  DERIVED. THE GIVEN ROWS OF THIS SEAT. 11 by the template 'for every input the law returns true; each argument reads behind the call as it read before'; 0 by the template 'total and deterministic' (their statements: YthkpfeikpmcpeaaTotals.lean).
  GIVEN WITH THE SEED: the statements are not yours to turn. If you find one false, say at which input.
  Laid BY PROGRAM, IN A SANDBOX (cutbox-rows.mjs): the forced cells as the released guide's own fill.sh prints them over the translation b745b4d783ae0ee9… (all of the seat's roots in one cut). By AI agents, Wed Nov 11 2026. No macro, syntax, notation, axiom, sorry.
-/
import Derived.Test.YthkpfeikpmcpeaaChecked
import GoSem.Claim
import GoSem.ClaimJoined
import GoSem.ClaimMapViews
import Derived.JoinedTies
import Derived.KernelRfl
namespace Go.Proofs.Ythkpfeikpmcpeaa
/- THE CELL 'sum', in the pinned program and in every row, IS THE sha256 OF THE DUMP (.gsa) THAT YthkpfeikpmcpeaaProg.lean LOADS. Nothing in Lean hashes anything: it is a label: what it is worth is what the hold of that sum in a sandbox is worth. -/
noncomputable def Try.pinned : Pinned := { name := "ythkpfeikpmcpeaa", sum := "b745b4d783ae0ee941382788765da588c32f08ab13ed7d03ef121969c845e15a", checked := Try.checked }
namespace Rows
def none {H : Type} : Left H := { results := [], args := [] }

/-- 'underpinlaw05.TableaAnswers': WHATEVER THE INPUT: true; the input reads as it did. -/
def tableaAnswersSpec : ChangeSpec := { name := "tableaAnswers", fn := fun _ => fun
  | [d1, d2, d3] => { results := [.lit (.bool true)], args := [d1, d2, d3] }
  | _ => none }
def tableaAnswersRow : OpenClaim := { program := "ythkpfeikpmcpeaa", sum := "b745b4d783ae0ee941382788765da588c32f08ab13ed7d03ef121969c845e15a", func := "underpin/underpinlaw05.TableaAnswers", spec := "tableaAnswers", apart := false }
def TableaAnswersSaid : Prop := tableaAnswersRow.holds Try.pinned (OpenSpec.ofChange tableaAnswersSpec)

/-- ITS FALSE NEIGHBOUR: 'it returns false'. Refute it at one input. -/
def tableaAnswersWrong : ChangeSpec := { name := "tableaAnswers", fn := fun _ => fun
  | [d1, d2, d3] => { results := [.lit (.bool false)], args := [d1, d2, d3] }
  | _ => none }
def TableaAnswersWrongFalsely : Prop := tableaAnswersRow.holds Try.pinned (OpenSpec.ofChange tableaAnswersWrong)

/-- 'underpinlaw05.TableaWaste': WHATEVER THE INPUT: true; the input reads as it did. -/
def tableaWasteSpec : ChangeSpec := { name := "tableaWaste", fn := fun _ => fun
  | [d] => { results := [.lit (.bool true)], args := [d] }
  | _ => none }
def tableaWasteRow : OpenClaim := { program := "ythkpfeikpmcpeaa", sum := "b745b4d783ae0ee941382788765da588c32f08ab13ed7d03ef121969c845e15a", func := "underpin/underpinlaw05.TableaWaste", spec := "tableaWaste", apart := false }
def TableaWasteSaid : Prop := tableaWasteRow.holds Try.pinned (OpenSpec.ofChange tableaWasteSpec)

/-- ITS FALSE NEIGHBOUR: 'it returns false'. Refute it at one input. -/
def tableaWasteWrong : ChangeSpec := { name := "tableaWaste", fn := fun _ => fun
  | [d] => { results := [.lit (.bool false)], args := [d] }
  | _ => none }
def TableaWasteWrongFalsely : Prop := tableaWasteRow.holds Try.pinned (OpenSpec.ofChange tableaWasteWrong)

/-- 'underpinlaw05.TableaAligns': WHATEVER THE INPUT: true; the input reads as it did. -/
def tableaAlignsSpec : ChangeSpec := { name := "tableaAligns", fn := fun _ => fun
  | [d1, d2, d3] => { results := [.lit (.bool true)], args := [d1, d2, d3] }
  | _ => none }
def tableaAlignsRow : OpenClaim := { program := "ythkpfeikpmcpeaa", sum := "b745b4d783ae0ee941382788765da588c32f08ab13ed7d03ef121969c845e15a", func := "underpin/underpinlaw05.TableaAligns", spec := "tableaAligns", apart := false }
def TableaAlignsSaid : Prop := tableaAlignsRow.holds Try.pinned (OpenSpec.ofChange tableaAlignsSpec)

/-- ITS FALSE NEIGHBOUR: 'it returns false'. Refute it at one input. -/
def tableaAlignsWrong : ChangeSpec := { name := "tableaAligns", fn := fun _ => fun
  | [d1, d2, d3] => { results := [.lit (.bool false)], args := [d1, d2, d3] }
  | _ => none }
def TableaAlignsWrongFalsely : Prop := tableaAlignsRow.holds Try.pinned (OpenSpec.ofChange tableaAlignsWrong)

/-- 'underpinlaw04.SizesRequests': WHATEVER THE INPUT: true; the input reads as it did. -/
def sizesRequestsSpec : ChangeSpec := { name := "sizesRequests", fn := fun _ => fun
  | [d1, d2] => { results := [.lit (.bool true)], args := [d1, d2] }
  | _ => none }
def sizesRequestsRow : OpenClaim := { program := "ythkpfeikpmcpeaa", sum := "b745b4d783ae0ee941382788765da588c32f08ab13ed7d03ef121969c845e15a", func := "underpin/underpinlaw04.SizesRequests", spec := "sizesRequests", apart := false }
def SizesRequestsSaid : Prop := sizesRequestsRow.holds Try.pinned (OpenSpec.ofChange sizesRequestsSpec)

/-- ITS FALSE NEIGHBOUR: 'it returns false'. Refute it at one input. -/
def sizesRequestsWrong : ChangeSpec := { name := "sizesRequests", fn := fun _ => fun
  | [d1, d2] => { results := [.lit (.bool false)], args := [d1, d2] }
  | _ => none }
def SizesRequestsWrongFalsely : Prop := sizesRequestsRow.holds Try.pinned (OpenSpec.ofChange sizesRequestsWrong)

/-- 'underpinlaw04.SizesRounds': WHATEVER THE INPUT: true; the input reads as it did. -/
def sizesRoundsSpec : ChangeSpec := { name := "sizesRounds", fn := fun _ => fun
  | [d1, d2] => { results := [.lit (.bool true)], args := [d1, d2] }
  | _ => none }
def sizesRoundsRow : OpenClaim := { program := "ythkpfeikpmcpeaa", sum := "b745b4d783ae0ee941382788765da588c32f08ab13ed7d03ef121969c845e15a", func := "underpin/underpinlaw04.SizesRounds", spec := "sizesRounds", apart := false }
def SizesRoundsSaid : Prop := sizesRoundsRow.holds Try.pinned (OpenSpec.ofChange sizesRoundsSpec)

/-- ITS FALSE NEIGHBOUR: 'it returns false'. Refute it at one input. -/
def sizesRoundsWrong : ChangeSpec := { name := "sizesRounds", fn := fun _ => fun
  | [d1, d2] => { results := [.lit (.bool false)], args := [d1, d2] }
  | _ => none }
def SizesRoundsWrongFalsely : Prop := sizesRoundsRow.holds Try.pinned (OpenSpec.ofChange sizesRoundsWrong)

/-- 'underpinlaw04.SizesBetween': WHATEVER THE INPUT: true; the input reads as it did. -/
def sizesBetweenSpec : ChangeSpec := { name := "sizesBetween", fn := fun _ => fun
  | [d1, d2, d3] => { results := [.lit (.bool true)], args := [d1, d2, d3] }
  | _ => none }
def sizesBetweenRow : OpenClaim := { program := "ythkpfeikpmcpeaa", sum := "b745b4d783ae0ee941382788765da588c32f08ab13ed7d03ef121969c845e15a", func := "underpin/underpinlaw04.SizesBetween", spec := "sizesBetween", apart := false }
def SizesBetweenSaid : Prop := sizesBetweenRow.holds Try.pinned (OpenSpec.ofChange sizesBetweenSpec)

/-- ITS FALSE NEIGHBOUR: 'it returns false'. Refute it at one input. -/
def sizesBetweenWrong : ChangeSpec := { name := "sizesBetween", fn := fun _ => fun
  | [d1, d2, d3] => { results := [.lit (.bool false)], args := [d1, d2, d3] }
  | _ => none }
def SizesBetweenWrongFalsely : Prop := sizesBetweenRow.holds Try.pinned (OpenSpec.ofChange sizesBetweenWrong)

/-- 'underpinlaw04.SizesPowers': WHATEVER THE INPUT: true; the input reads as it did. -/
def sizesPowersSpec : ChangeSpec := { name := "sizesPowers", fn := fun _ => fun
  | [d] => { results := [.lit (.bool true)], args := [d] }
  | _ => none }
def sizesPowersRow : OpenClaim := { program := "ythkpfeikpmcpeaa", sum := "b745b4d783ae0ee941382788765da588c32f08ab13ed7d03ef121969c845e15a", func := "underpin/underpinlaw04.SizesPowers", spec := "sizesPowers", apart := false }
def SizesPowersSaid : Prop := sizesPowersRow.holds Try.pinned (OpenSpec.ofChange sizesPowersSpec)

/-- ITS FALSE NEIGHBOUR: 'it returns false'. Refute it at one input. -/
def sizesPowersWrong : ChangeSpec := { name := "sizesPowers", fn := fun _ => fun
  | [d] => { results := [.lit (.bool false)], args := [d] }
  | _ => none }
def SizesPowersWrongFalsely : Prop := sizesPowersRow.holds Try.pinned (OpenSpec.ofChange sizesPowersWrong)

/-- 'underpinlaw06.TablebAnswers': WHATEVER THE INPUT: true; the input reads as it did. -/
def tablebAnswersSpec : ChangeSpec := { name := "tablebAnswers", fn := fun _ => fun
  | [d1, d2, d3, d4] => { results := [.lit (.bool true)], args := [d1, d2, d3, d4] }
  | _ => none }
def tablebAnswersRow : OpenClaim := { program := "ythkpfeikpmcpeaa", sum := "b745b4d783ae0ee941382788765da588c32f08ab13ed7d03ef121969c845e15a", func := "underpin/underpinlaw06.TablebAnswers", spec := "tablebAnswers", apart := false }
def TablebAnswersSaid : Prop := tablebAnswersRow.holds Try.pinned (OpenSpec.ofChange tablebAnswersSpec)

/-- ITS FALSE NEIGHBOUR: 'it returns false'. Refute it at one input. -/
def tablebAnswersWrong : ChangeSpec := { name := "tablebAnswers", fn := fun _ => fun
  | [d1, d2, d3, d4] => { results := [.lit (.bool false)], args := [d1, d2, d3, d4] }
  | _ => none }
def TablebAnswersWrongFalsely : Prop := tablebAnswersRow.holds Try.pinned (OpenSpec.ofChange tablebAnswersWrong)

/-- 'underpinlaw06.TablebTwins': WHATEVER THE INPUT: true; the input reads as it did. -/
def tablebTwinsSpec : ChangeSpec := { name := "tablebTwins", fn := fun _ => fun
  | [d1, d2, d3] => { results := [.lit (.bool true)], args := [d1, d2, d3] }
  | _ => none }
def tablebTwinsRow : OpenClaim := { program := "ythkpfeikpmcpeaa", sum := "b745b4d783ae0ee941382788765da588c32f08ab13ed7d03ef121969c845e15a", func := "underpin/underpinlaw06.TablebTwins", spec := "tablebTwins", apart := false }
def TablebTwinsSaid : Prop := tablebTwinsRow.holds Try.pinned (OpenSpec.ofChange tablebTwinsSpec)

/-- ITS FALSE NEIGHBOUR: 'it returns false'. Refute it at one input. -/
def tablebTwinsWrong : ChangeSpec := { name := "tablebTwins", fn := fun _ => fun
  | [d1, d2, d3] => { results := [.lit (.bool false)], args := [d1, d2, d3] }
  | _ => none }
def TablebTwinsWrongFalsely : Prop := tablebTwinsRow.holds Try.pinned (OpenSpec.ofChange tablebTwinsWrong)

/-- 'underpinlaw06.TablebWaste': WHATEVER THE INPUT: true; the input reads as it did. -/
def tablebWasteSpec : ChangeSpec := { name := "tablebWaste", fn := fun _ => fun
  | [d1, d2] => { results := [.lit (.bool true)], args := [d1, d2] }
  | _ => none }
def tablebWasteRow : OpenClaim := { program := "ythkpfeikpmcpeaa", sum := "b745b4d783ae0ee941382788765da588c32f08ab13ed7d03ef121969c845e15a", func := "underpin/underpinlaw06.TablebWaste", spec := "tablebWaste", apart := false }
def TablebWasteSaid : Prop := tablebWasteRow.holds Try.pinned (OpenSpec.ofChange tablebWasteSpec)

/-- ITS FALSE NEIGHBOUR: 'it returns false'. Refute it at one input. -/
def tablebWasteWrong : ChangeSpec := { name := "tablebWaste", fn := fun _ => fun
  | [d1, d2] => { results := [.lit (.bool false)], args := [d1, d2] }
  | _ => none }
def TablebWasteWrongFalsely : Prop := tablebWasteRow.holds Try.pinned (OpenSpec.ofChange tablebWasteWrong)

/-- 'underpinlaw06.TablebOld': WHATEVER THE INPUT: true; the input reads as it did. -/
def tablebOldSpec : ChangeSpec := { name := "tablebOld", fn := fun _ => fun
  | [d1, d2, d3] => { results := [.lit (.bool true)], args := [d1, d2, d3] }
  | _ => none }
def tablebOldRow : OpenClaim := { program := "ythkpfeikpmcpeaa", sum := "b745b4d783ae0ee941382788765da588c32f08ab13ed7d03ef121969c845e15a", func := "underpin/underpinlaw06.TablebOld", spec := "tablebOld", apart := false }
def TablebOldSaid : Prop := tablebOldRow.holds Try.pinned (OpenSpec.ofChange tablebOldSpec)

/-- ITS FALSE NEIGHBOUR: 'it returns false'. Refute it at one input. -/
def tablebOldWrong : ChangeSpec := { name := "tablebOld", fn := fun _ => fun
  | [d1, d2, d3] => { results := [.lit (.bool false)], args := [d1, d2, d3] }
  | _ => none }
def TablebOldWrongFalsely : Prop := tablebOldRow.holds Try.pinned (OpenSpec.ofChange tablebOldWrong)

/- THE SECOND FORM. 'bulk': how many values and letters a reading holds, each counted each time it is reached (what is shared counts as often as it is met; a slice's spare places count too). A statement '..UptoSaid' is the law's where the arguments, and the package variables that the reading takes, are together of bulk at most 1048576: NARROWER than '..Said'. Prove '..Said' where nothing that the law and all that it calls make is longer than what came in: it says more and counts as full. Else prove '..UptoSaid'. A law counts once. -/
mutual
def uptoBulk {H : Type} : DataW H → Nat
  | .lit (.string bytes) => bytes.length + 1
  | .lit _ => 1
  | .nil => 1
  | .ptr d => uptoBulk d + 1
  | .slice elems spare => uptoBulkAll elems + uptoBulkAll spare + 1
  | .agg parts => uptoBulkAll parts + 1
  | .iface _ d => uptoBulk d + 1
  | .map entries => uptoBulkEntries entries + 1
  | .held _ => 1
def uptoBulkAll {H : Type} : List (DataW H) → Nat
  | [] => 0
  | d :: r => uptoBulk d + uptoBulkAll r
def uptoBulkEntries {H : Type} : List (Lit × DataW H) → Nat
  | [] => 0
  | x :: r => uptoBulkEntry x + uptoBulkEntries r
def uptoBulkEntry {H : Type} : Lit × DataW H → Nat
  | (.string bytes, d) => bytes.length + uptoBulk d + 1
  | (_, d) => uptoBulk d + 1
 end
def uptoSmall : (H : Type) → List (DataW H) → Bool := fun _ ds => decide (uptoBulkAll ds ≤ 1048576)
def OpenSpec.upto (s : _root_.Go.ChangeSpec) : _root_.Go.OpenSpec := { _root_.Go.OpenSpec.ofChange s with cond := some uptoSmall }

/-- 'underpinlaw05.TableaAnswers', WHERE WHAT IT READS IS OF BULK AT MOST 1048576: true; the input reads as it did. -/
def tableaAnswersUptoRow : OpenClaim := { program := "ythkpfeikpmcpeaa", sum := "b745b4d783ae0ee941382788765da588c32f08ab13ed7d03ef121969c845e15a", func := "underpin/underpinlaw05.TableaAnswers", spec := "tableaAnswers", apart := false, narrowed := true }
def TableaAnswersUptoSaid : Prop := tableaAnswersUptoRow.holds Try.pinned (OpenSpec.upto tableaAnswersSpec)

/-- 'underpinlaw05.TableaWaste', WHERE WHAT IT READS IS OF BULK AT MOST 1048576: true; the input reads as it did. -/
def tableaWasteUptoRow : OpenClaim := { program := "ythkpfeikpmcpeaa", sum := "b745b4d783ae0ee941382788765da588c32f08ab13ed7d03ef121969c845e15a", func := "underpin/underpinlaw05.TableaWaste", spec := "tableaWaste", apart := false, narrowed := true }
def TableaWasteUptoSaid : Prop := tableaWasteUptoRow.holds Try.pinned (OpenSpec.upto tableaWasteSpec)

/-- 'underpinlaw05.TableaAligns', WHERE WHAT IT READS IS OF BULK AT MOST 1048576: true; the input reads as it did. -/
def tableaAlignsUptoRow : OpenClaim := { program := "ythkpfeikpmcpeaa", sum := "b745b4d783ae0ee941382788765da588c32f08ab13ed7d03ef121969c845e15a", func := "underpin/underpinlaw05.TableaAligns", spec := "tableaAligns", apart := false, narrowed := true }
def TableaAlignsUptoSaid : Prop := tableaAlignsUptoRow.holds Try.pinned (OpenSpec.upto tableaAlignsSpec)

/-- 'underpinlaw04.SizesRequests', WHERE WHAT IT READS IS OF BULK AT MOST 1048576: true; the input reads as it did. -/
def sizesRequestsUptoRow : OpenClaim := { program := "ythkpfeikpmcpeaa", sum := "b745b4d783ae0ee941382788765da588c32f08ab13ed7d03ef121969c845e15a", func := "underpin/underpinlaw04.SizesRequests", spec := "sizesRequests", apart := false, narrowed := true }
def SizesRequestsUptoSaid : Prop := sizesRequestsUptoRow.holds Try.pinned (OpenSpec.upto sizesRequestsSpec)

/-- 'underpinlaw04.SizesRounds', WHERE WHAT IT READS IS OF BULK AT MOST 1048576: true; the input reads as it did. -/
def sizesRoundsUptoRow : OpenClaim := { program := "ythkpfeikpmcpeaa", sum := "b745b4d783ae0ee941382788765da588c32f08ab13ed7d03ef121969c845e15a", func := "underpin/underpinlaw04.SizesRounds", spec := "sizesRounds", apart := false, narrowed := true }
def SizesRoundsUptoSaid : Prop := sizesRoundsUptoRow.holds Try.pinned (OpenSpec.upto sizesRoundsSpec)

/-- 'underpinlaw04.SizesBetween', WHERE WHAT IT READS IS OF BULK AT MOST 1048576: true; the input reads as it did. -/
def sizesBetweenUptoRow : OpenClaim := { program := "ythkpfeikpmcpeaa", sum := "b745b4d783ae0ee941382788765da588c32f08ab13ed7d03ef121969c845e15a", func := "underpin/underpinlaw04.SizesBetween", spec := "sizesBetween", apart := false, narrowed := true }
def SizesBetweenUptoSaid : Prop := sizesBetweenUptoRow.holds Try.pinned (OpenSpec.upto sizesBetweenSpec)

/-- 'underpinlaw04.SizesPowers', WHERE WHAT IT READS IS OF BULK AT MOST 1048576: true; the input reads as it did. -/
def sizesPowersUptoRow : OpenClaim := { program := "ythkpfeikpmcpeaa", sum := "b745b4d783ae0ee941382788765da588c32f08ab13ed7d03ef121969c845e15a", func := "underpin/underpinlaw04.SizesPowers", spec := "sizesPowers", apart := false, narrowed := true }
def SizesPowersUptoSaid : Prop := sizesPowersUptoRow.holds Try.pinned (OpenSpec.upto sizesPowersSpec)

/-- 'underpinlaw06.TablebAnswers', WHERE WHAT IT READS IS OF BULK AT MOST 1048576: true; the input reads as it did. -/
def tablebAnswersUptoRow : OpenClaim := { program := "ythkpfeikpmcpeaa", sum := "b745b4d783ae0ee941382788765da588c32f08ab13ed7d03ef121969c845e15a", func := "underpin/underpinlaw06.TablebAnswers", spec := "tablebAnswers", apart := false, narrowed := true }
def TablebAnswersUptoSaid : Prop := tablebAnswersUptoRow.holds Try.pinned (OpenSpec.upto tablebAnswersSpec)

/-- 'underpinlaw06.TablebTwins', WHERE WHAT IT READS IS OF BULK AT MOST 1048576: true; the input reads as it did. -/
def tablebTwinsUptoRow : OpenClaim := { program := "ythkpfeikpmcpeaa", sum := "b745b4d783ae0ee941382788765da588c32f08ab13ed7d03ef121969c845e15a", func := "underpin/underpinlaw06.TablebTwins", spec := "tablebTwins", apart := false, narrowed := true }
def TablebTwinsUptoSaid : Prop := tablebTwinsUptoRow.holds Try.pinned (OpenSpec.upto tablebTwinsSpec)

/-- 'underpinlaw06.TablebWaste', WHERE WHAT IT READS IS OF BULK AT MOST 1048576: true; the input reads as it did. -/
def tablebWasteUptoRow : OpenClaim := { program := "ythkpfeikpmcpeaa", sum := "b745b4d783ae0ee941382788765da588c32f08ab13ed7d03ef121969c845e15a", func := "underpin/underpinlaw06.TablebWaste", spec := "tablebWaste", apart := false, narrowed := true }
def TablebWasteUptoSaid : Prop := tablebWasteUptoRow.holds Try.pinned (OpenSpec.upto tablebWasteSpec)

/-- 'underpinlaw06.TablebOld', WHERE WHAT IT READS IS OF BULK AT MOST 1048576: true; the input reads as it did. -/
def tablebOldUptoRow : OpenClaim := { program := "ythkpfeikpmcpeaa", sum := "b745b4d783ae0ee941382788765da588c32f08ab13ed7d03ef121969c845e15a", func := "underpin/underpinlaw06.TablebOld", spec := "tablebOld", apart := false, narrowed := true }
def TablebOldUptoSaid : Prop := tablebOldUptoRow.holds Try.pinned (OpenSpec.upto tablebOldSpec)

end Rows
end Go.Proofs.Ythkpfeikpmcpeaa
