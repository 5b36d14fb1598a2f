/-
  No cell of these rows narrows 'for every input' (looked for: loops, veiled, ifaces, maps, wideKeys, modest, calm, conditions, laid).
  DERIVED. THE GIVEN ROWS OF THIS SEAT. 6 by the template 'for every input the law returns true; each argument reads behind the call as it read before'; 0 by the template 'total and deterministic' (their statements: YtloflnachpjlgaaTotals.lean).
  GIVEN WITH THE SEED: the statements are not yours to turn. If you find one false, say at which input.
  Laid BY PROGRAM, IN A SANDBOX (cutbox-rows.mjs): the forced cells as the released guide's own fill.sh prints them over the translation e7d02b30ed4a09e9… (all of the seat's roots in one cut). By AI agents, Wed Nov 11 2026. No macro, syntax, notation, axiom, sorry.
-/
import Derived.Test.YtloflnachpjlgaaChecked
import GoSem.Claim
import GoSem.ClaimJoined
import GoSem.ClaimMapViews
import Derived.JoinedTies
import Derived.KernelRfl
namespace Go.Proofs.Ytloflnachpjlgaa
/- THE CELL 'sum', in the pinned program and in every row, IS THE sha256 OF THE DUMP (.gsa) THAT YtloflnachpjlgaaProg.lean LOADS. Nothing in Lean hashes anything: it is a label: what it is worth is what the hold of that sum in a sandbox is worth. -/
noncomputable def Try.pinned : Pinned := { name := "ytloflnachpjlgaa", sum := "e7d02b30ed4a09e9eed27525f306cdeaec4e2affc1f3907d6fcb28ebec004aba", checked := Try.checked }
namespace Rows
def none {H : Type} : Left H := { results := [], args := [] }

/-- 'underpinlaw15.NewslabWords': WHATEVER THE INPUT: true; the input reads as it did. -/
def newslabWordsSpec : ChangeSpec := { name := "newslabWords", fn := fun _ => fun
  | [d1, d2, d3, d4] => { results := [.lit (.bool true)], args := [d1, d2, d3, d4] }
  | _ => none }
def newslabWordsRow : OpenClaim := { program := "ytloflnachpjlgaa", sum := "e7d02b30ed4a09e9eed27525f306cdeaec4e2affc1f3907d6fcb28ebec004aba", func := "underpin/underpinlaw15.NewslabWords", spec := "newslabWords", unfollowed := true, recurses := true, apart := false }
def NewslabWordsSaid : Prop := newslabWordsRow.holds Try.pinned (OpenSpec.ofChange newslabWordsSpec)

/-- ITS FALSE NEIGHBOUR: 'it returns false'. Refute it at one input. -/
def newslabWordsWrong : ChangeSpec := { name := "newslabWords", fn := fun _ => fun
  | [d1, d2, d3, d4] => { results := [.lit (.bool false)], args := [d1, d2, d3, d4] }
  | _ => none }
def NewslabWordsWrongFalsely : Prop := newslabWordsRow.holds Try.pinned (OpenSpec.ofChange newslabWordsWrong)

/-- 'underpinlaw15.NewslabCalls': WHATEVER THE INPUT: true; the input reads as it did. -/
def newslabCallsSpec : ChangeSpec := { name := "newslabCalls", fn := fun _ => fun
  | [d1, d2, d3, d4, d5] => { results := [.lit (.bool true)], args := [d1, d2, d3, d4, d5] }
  | _ => none }
def newslabCallsRow : OpenClaim := { program := "ytloflnachpjlgaa", sum := "e7d02b30ed4a09e9eed27525f306cdeaec4e2affc1f3907d6fcb28ebec004aba", func := "underpin/underpinlaw15.NewslabCalls", spec := "newslabCalls", unfollowed := true, recurses := true, apart := false }
def NewslabCallsSaid : Prop := newslabCallsRow.holds Try.pinned (OpenSpec.ofChange newslabCallsSpec)

/-- ITS FALSE NEIGHBOUR: 'it returns false'. Refute it at one input. -/
def newslabCallsWrong : ChangeSpec := { name := "newslabCalls", fn := fun _ => fun
  | [d1, d2, d3, d4, d5] => { results := [.lit (.bool false)], args := [d1, d2, d3, d4, d5] }
  | _ => none }
def NewslabCallsWrongFalsely : Prop := newslabCallsRow.holds Try.pinned (OpenSpec.ofChange newslabCallsWrong)

/-- 'underpinlaw15.NewslabForged': WHATEVER THE INPUT: true; the input reads as it did. -/
def newslabForgedSpec : ChangeSpec := { name := "newslabForged", fn := fun _ => fun
  | [d1, d2, d3, d4, d5, d6] => { results := [.lit (.bool true)], args := [d1, d2, d3, d4, d5, d6] }
  | _ => none }
def newslabForgedRow : OpenClaim := { program := "ytloflnachpjlgaa", sum := "e7d02b30ed4a09e9eed27525f306cdeaec4e2affc1f3907d6fcb28ebec004aba", func := "underpin/underpinlaw15.NewslabForged", spec := "newslabForged", unfollowed := true, recurses := true, apart := false }
def NewslabForgedSaid : Prop := newslabForgedRow.holds Try.pinned (OpenSpec.ofChange newslabForgedSpec)

/-- ITS FALSE NEIGHBOUR: 'it returns false'. Refute it at one input. -/
def newslabForgedWrong : ChangeSpec := { name := "newslabForged", fn := fun _ => fun
  | [d1, d2, d3, d4, d5, d6] => { results := [.lit (.bool false)], args := [d1, d2, d3, d4, d5, d6] }
  | _ => none }
def NewslabForgedWrongFalsely : Prop := newslabForgedRow.holds Try.pinned (OpenSpec.ofChange newslabForgedWrong)

/-- 'underpinlaw15.NewslabBroken': WHATEVER THE INPUT: true; the input reads as it did. -/
def newslabBrokenSpec : ChangeSpec := { name := "newslabBroken", fn := fun _ => fun
  | [d1, d2, d3, d4, d5] => { results := [.lit (.bool true)], args := [d1, d2, d3, d4, d5] }
  | _ => none }
def newslabBrokenRow : OpenClaim := { program := "ytloflnachpjlgaa", sum := "e7d02b30ed4a09e9eed27525f306cdeaec4e2affc1f3907d6fcb28ebec004aba", func := "underpin/underpinlaw15.NewslabBroken", spec := "newslabBroken", unfollowed := true, recurses := true, apart := false }
def NewslabBrokenSaid : Prop := newslabBrokenRow.holds Try.pinned (OpenSpec.ofChange newslabBrokenSpec)

/-- ITS FALSE NEIGHBOUR: 'it returns false'. Refute it at one input. -/
def newslabBrokenWrong : ChangeSpec := { name := "newslabBroken", fn := fun _ => fun
  | [d1, d2, d3, d4, d5] => { results := [.lit (.bool false)], args := [d1, d2, d3, d4, d5] }
  | _ => none }
def NewslabBrokenWrongFalsely : Prop := newslabBrokenRow.holds Try.pinned (OpenSpec.ofChange newslabBrokenWrong)

/-- 'underpinlaw15.NewslabLast': WHATEVER THE INPUT: true; the input reads as it did. -/
def newslabLastSpec : ChangeSpec := { name := "newslabLast", fn := fun _ => fun
  | [d1, d2, d3] => { results := [.lit (.bool true)], args := [d1, d2, d3] }
  | _ => none }
def newslabLastRow : OpenClaim := { program := "ytloflnachpjlgaa", sum := "e7d02b30ed4a09e9eed27525f306cdeaec4e2affc1f3907d6fcb28ebec004aba", func := "underpin/underpinlaw15.NewslabLast", spec := "newslabLast", unfollowed := true, recurses := true, apart := false }
def NewslabLastSaid : Prop := newslabLastRow.holds Try.pinned (OpenSpec.ofChange newslabLastSpec)

/-- ITS FALSE NEIGHBOUR: 'it returns false'. Refute it at one input. -/
def newslabLastWrong : ChangeSpec := { name := "newslabLast", fn := fun _ => fun
  | [d1, d2, d3] => { results := [.lit (.bool false)], args := [d1, d2, d3] }
  | _ => none }
def NewslabLastWrongFalsely : Prop := newslabLastRow.holds Try.pinned (OpenSpec.ofChange newslabLastWrong)

/-- 'underpinlaw15.NewslabTouches': WHATEVER THE INPUT: true; the input reads as it did. -/
def newslabTouchesSpec : ChangeSpec := { name := "newslabTouches", fn := fun _ => fun
  | [d1, d2, d3, d4] => { results := [.lit (.bool true)], args := [d1, d2, d3, d4] }
  | _ => none }
def newslabTouchesRow : OpenClaim := { program := "ytloflnachpjlgaa", sum := "e7d02b30ed4a09e9eed27525f306cdeaec4e2affc1f3907d6fcb28ebec004aba", func := "underpin/underpinlaw15.NewslabTouches", spec := "newslabTouches", unfollowed := true, recurses := true, apart := false }
def NewslabTouchesSaid : Prop := newslabTouchesRow.holds Try.pinned (OpenSpec.ofChange newslabTouchesSpec)

/-- ITS FALSE NEIGHBOUR: 'it returns false'. Refute it at one input. -/
def newslabTouchesWrong : ChangeSpec := { name := "newslabTouches", fn := fun _ => fun
  | [d1, d2, d3, d4] => { results := [.lit (.bool false)], args := [d1, d2, d3, d4] }
  | _ => none }
def NewslabTouchesWrongFalsely : Prop := newslabTouchesRow.holds Try.pinned (OpenSpec.ofChange newslabTouchesWrong)

/- THE SECOND FORM. 'bulk': how many values and letters a reading holds, each counted each time it is reached (what is shared counts as often as it is met; a slice's spare places count too). A statement '..UptoSaid' is the law's where the arguments, and the package variables that the reading takes, are together of bulk at most 1048576: NARROWER than '..Said'. Prove '..Said' where nothing that the law and all that it calls make is longer than what came in: it says more and counts as full. Else prove '..UptoSaid'. A law counts once. -/
mutual
def uptoBulk {H : Type} : DataW H → Nat
  | .lit (.string bytes) => bytes.length + 1
  | .lit _ => 1
  | .nil => 1
  | .ptr d => uptoBulk d + 1
  | .slice elems spare => uptoBulkAll elems + uptoBulkAll spare + 1
  | .agg parts => uptoBulkAll parts + 1
  | .iface _ d => uptoBulk d + 1
  | .map entries => uptoBulkEntries entries + 1
  | .held _ => 1
def uptoBulkAll {H : Type} : List (DataW H) → Nat
  | [] => 0
  | d :: r => uptoBulk d + uptoBulkAll r
def uptoBulkEntries {H : Type} : List (Lit × DataW H) → Nat
  | [] => 0
  | x :: r => uptoBulkEntry x + uptoBulkEntries r
def uptoBulkEntry {H : Type} : Lit × DataW H → Nat
  | (.string bytes, d) => bytes.length + uptoBulk d + 1
  | (_, d) => uptoBulk d + 1
 end
def uptoSmall : (H : Type) → List (DataW H) → Bool := fun _ ds => decide (uptoBulkAll ds ≤ 1048576)
def OpenSpec.upto (s : _root_.Go.ChangeSpec) : _root_.Go.OpenSpec := { _root_.Go.OpenSpec.ofChange s with cond := some uptoSmall }

/-- 'underpinlaw15.NewslabWords', WHERE WHAT IT READS IS OF BULK AT MOST 1048576: true; the input reads as it did. -/
def newslabWordsUptoRow : OpenClaim := { program := "ytloflnachpjlgaa", sum := "e7d02b30ed4a09e9eed27525f306cdeaec4e2affc1f3907d6fcb28ebec004aba", func := "underpin/underpinlaw15.NewslabWords", spec := "newslabWords", unfollowed := true, recurses := true, apart := false, narrowed := true }
def NewslabWordsUptoSaid : Prop := newslabWordsUptoRow.holds Try.pinned (OpenSpec.upto newslabWordsSpec)

/-- 'underpinlaw15.NewslabCalls', WHERE WHAT IT READS IS OF BULK AT MOST 1048576: true; the input reads as it did. -/
def newslabCallsUptoRow : OpenClaim := { program := "ytloflnachpjlgaa", sum := "e7d02b30ed4a09e9eed27525f306cdeaec4e2affc1f3907d6fcb28ebec004aba", func := "underpin/underpinlaw15.NewslabCalls", spec := "newslabCalls", unfollowed := true, recurses := true, apart := false, narrowed := true }
def NewslabCallsUptoSaid : Prop := newslabCallsUptoRow.holds Try.pinned (OpenSpec.upto newslabCallsSpec)

/-- 'underpinlaw15.NewslabForged', WHERE WHAT IT READS IS OF BULK AT MOST 1048576: true; the input reads as it did. -/
def newslabForgedUptoRow : OpenClaim := { program := "ytloflnachpjlgaa", sum := "e7d02b30ed4a09e9eed27525f306cdeaec4e2affc1f3907d6fcb28ebec004aba", func := "underpin/underpinlaw15.NewslabForged", spec := "newslabForged", unfollowed := true, recurses := true, apart := false, narrowed := true }
def NewslabForgedUptoSaid : Prop := newslabForgedUptoRow.holds Try.pinned (OpenSpec.upto newslabForgedSpec)

/-- 'underpinlaw15.NewslabBroken', WHERE WHAT IT READS IS OF BULK AT MOST 1048576: true; the input reads as it did. -/
def newslabBrokenUptoRow : OpenClaim := { program := "ytloflnachpjlgaa", sum := "e7d02b30ed4a09e9eed27525f306cdeaec4e2affc1f3907d6fcb28ebec004aba", func := "underpin/underpinlaw15.NewslabBroken", spec := "newslabBroken", unfollowed := true, recurses := true, apart := false, narrowed := true }
def NewslabBrokenUptoSaid : Prop := newslabBrokenUptoRow.holds Try.pinned (OpenSpec.upto newslabBrokenSpec)

/-- 'underpinlaw15.NewslabLast', WHERE WHAT IT READS IS OF BULK AT MOST 1048576: true; the input reads as it did. -/
def newslabLastUptoRow : OpenClaim := { program := "ytloflnachpjlgaa", sum := "e7d02b30ed4a09e9eed27525f306cdeaec4e2affc1f3907d6fcb28ebec004aba", func := "underpin/underpinlaw15.NewslabLast", spec := "newslabLast", unfollowed := true, recurses := true, apart := false, narrowed := true }
def NewslabLastUptoSaid : Prop := newslabLastUptoRow.holds Try.pinned (OpenSpec.upto newslabLastSpec)

/-- 'underpinlaw15.NewslabTouches', WHERE WHAT IT READS IS OF BULK AT MOST 1048576: true; the input reads as it did. -/
def newslabTouchesUptoRow : OpenClaim := { program := "ytloflnachpjlgaa", sum := "e7d02b30ed4a09e9eed27525f306cdeaec4e2affc1f3907d6fcb28ebec004aba", func := "underpin/underpinlaw15.NewslabTouches", spec := "newslabTouches", unfollowed := true, recurses := true, apart := false, narrowed := true }
def NewslabTouchesUptoSaid : Prop := newslabTouchesUptoRow.holds Try.pinned (OpenSpec.upto newslabTouchesSpec)

end Rows
end Go.Proofs.Ytloflnachpjlgaa
