/- Both: the runs and the document's pages, side by side; the document's Give at every page. -/
import Derived.Test.YtldlogmjkbhomaaSpaHb
import Derived.Test.YtldlogmjkbhomaaSpaF
set_option linter.unusedSimpArgs false
namespace Go.Proofs.Ytldlogmjkbhomaa.Spa
open Go.RowKit Go.Proofs.Ytldlogmjkbhomaa.Aid
theorem rgive_calls (w : World) (q : Nat) (G : List Nat) (P : Nat) (xs : List Rn) (h : RfAt w q G P xs) (page : Int) : Calls Try.prog 80 #[.pointer (some ⟨q, 0, none⟩), .int .i64 page] w fun e w' => e = .returned (.tuple #[.int .i64 (giveN page xs), .int .i64 (giveE page xs)]) ∧ RfAt w' q G P (giveS page xs) ∧ Kept G w w' := by
  by_cases hp : page < 0 ∨ (P : Int) ≤ page
  · exact rgive_out w q G P xs h page hp
  · obtain ⟨i, rfl⟩ := Int.eq_ofNat_of_zero_le (show 0 ≤ page by omega)
    exact rgive_in w q G P xs h i (by omega)
structure Two (w0 w : World) (p : Nat) (F : List Nat) (q : Nat) (G : List Nat) (P : Nat) (xs : List Rn) : Prop where
  hold : Hold w0 w p F P xs
  ref : RfAt w q G P xs
  dis : ∀ x ∈ F, x ∉ G
  base : ∀ x ∈ G, w0.heap.size ≤ x
theorem Two.on {w0 w w' : World} {p q P : Nat} {F G : List Nat} {xs : List Rn} (h : Two w0 w p F q G P xs) (k : Below w.heap.size w w') : Two w0 w' p F q G P xs := ⟨h.hold.on k, h.ref.below k, h.dis, h.base⟩
end Go.Proofs.Ytldlogmjkbhomaa.Spa
