/- What SpansApart holds: runs of its own, and a map that tells what is taken. -/
import Derived.Test.YtldlogmjkbhomaaSpaF
import Derived.Test.YtldlogmjkbhomaaSpaK
import Derived.Test.YtldlogmjkbhomaaSpaO
set_option linter.unusedSimpArgs false
namespace Go.Proofs.Ytldlogmjkbhomaa.Spa
open Go.RowKit Go.Proofs.Ytldlogmjkbhomaa.Aid
abbrev MT : TypeId := 107
abbrev IT' : TypeId := 3
abbrev MapJ (w : World) (mb n : Nat) (g : Int → Option Int) : Prop := MapI w Try.prog IT' IT' .i64 (keI .i64) (okI .i64) mb n g
theorem zero_int (u : World) : (zeroValue 3).run Try.prog u = .ok (.int .i64 0) u := by kernel_rfl
theorem keyJ : KeyAs Try.prog IT' (keI .i64) (okI .i64) := keyI Try.underlying3
structure Ap (w0 w : World) (p : Nat) (F : List Nat) (P : Nat) (xs : List Rn) (mb n : Nat) (g : Int → Option Int) : Prop where
  hold : Hold w0 w p F P xs
  map : MapJ w mb n g
  nin : mb ∉ F
  base : w0.heap.size ≤ mb
section
variable {w0 w w' : World} {p P mb n : Nat} {F : List Nat} {xs xs' : List Rn} {g : Int → Option Int}
theorem Ap.on (h : Ap w0 w p F P xs mb n g) (k : Below w.heap.size w w') : Ap w0 w' p F P xs mb n g := ⟨h.hold.on k, h.map.below k, h.nin, h.base⟩
theorem Ap.wrote (h : Ap w0 w p F P xs mb n g) (k : Spw w p F P xs' w') : ∃ F', Ap w0 w' p F' P xs' mb n g ∧ Kept F w w' := by
  obtain ⟨F', h1, h2, h3⟩ := h.hold.wrote k
  refine ⟨F', ⟨h1, h.map.kept h2 h.nin, fun hx => ?_, h.base⟩, h2⟩
  rcases h3 mb hx with e | e
  · exact h.nin e
  · have := h.map.lt
    omega
theorem Ap.upd {n' : Nat} {g' : Int → Option Int} (h : Ap w0 w p F P xs mb n g) (m : MapJ w' mb n' g') (k : Kept [mb] w w') : Ap w0 w' p F P xs mb n' g' := by
  refine ⟨⟨h.hold.sp.kept k fun x hx => ?_, h.hold.base, h.hold.below.trans (k.below h.hold.below.size fun x hx => ?_)⟩, m, h.nin, h.base⟩
  · intro e
    simp at e
    subst e
    exact h.nin hx
  · simp at hx
    subst hx
    exact h.base
theorem Ap.look (h : Ap w0 w p F P xs mb n g) {y : Int} (hy : (Lit.int .i64 y).wf = true) : (Instr.lookup 107 (.map (some mb)) (.int .i64 y) false).run Try.prog w = .ok (.int .i64 ((g y).getD 0)) w :=
  (h.map.look keyJ Try.underlying107 Try.underlying3 (zero_int w) hy).1
end
end Go.Proofs.Ytldlogmjkbhomaa.Spa
