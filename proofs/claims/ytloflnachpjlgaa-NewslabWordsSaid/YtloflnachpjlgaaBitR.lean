/- The contracts of the reference's functions of layer 3: a row is a list of truths in memory. -/
import Derived.Test.YtloflnachpjlgaaBitF
namespace Go.Proofs.Ytloflnachpjlgaa.Bit
open Go.RowKit Go.Proofs.Ytloflnachpjlgaa.Aid
/-- A list of truths in a block of the call's own. -/
def BoolsAt (w : World) (g c : Nat) (l : List Bool) : Prop := Row w 4 g c (l.map .bool)
theorem BoolsAt.cell {w : World} {g c : Nat} {l : List Bool} (h : BoolsAt w g c l) {k : Nat} (hk : k < l.length) : w.cell? ⟨g, k, none⟩ = some (.bool (l.getD k false)) := by
  rw [Row.cell h (by simpa using hk)]
  simp [List.getD_eq_getElem?_getD, hk]
theorem BoolsAt.free {w : World} {g c : Nat} {l : List Bool} (h : BoolsAt w g c l) (k : Nat) : w.frozen? ⟨g, k, none⟩ = false := Row.free h k
theorem BoolsAt.kept {w w' : World} {g c : Nat} {l : List Bool} (h : BoolsAt w g c l) {F : List Nat} (k : Kept F w w') (hb : g ∉ F) : BoolsAt w' g c l := Row.kept h k hb
theorem BoolsAt.below {w w' : World} {g c : Nat} {l : List Bool} (h : BoolsAt w g c l) (k : Below w.heap.size w w') : BoolsAt w' g c l := Row.below h k
theorem BoolsAt.put {w : World} {g c : Nat} {l : List Bool} (h : BoolsAt w g c l) (k : Nat) (b : Bool) : BoolsAt (w.setCell ⟨g, k, none⟩ (.bool b)) g c (l.set k b) := by
  have := Row.store h k (.bool b)
  rw [← List.map_set] at this
  exact this
theorem BoolsAt.lt {w : World} {g c : Nat} {l : List Bool} (h : BoolsAt w g c l) : g < w.heap.size := Row.lt h
end Go.Proofs.Ytloflnachpjlgaa.Bit
