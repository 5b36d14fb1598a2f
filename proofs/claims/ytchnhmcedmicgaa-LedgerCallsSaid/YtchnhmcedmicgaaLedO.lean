/- The ledger laws' calls opened. -/
import Derived.Test.YtchnhmcedmicgaaProg
import Derived.Test.YtchnhmcedmicgaaAidQuad
namespace Go.Proofs.Ytchnhmcedmicgaa.Led
open Go.ChangeShapes Go.WideShapes Go.RowKit Go.Deep Go.Proofs.Ytchnhmcedmicgaa.Aid
set_option maxRecDepth 100000 in
theorem open_tells {H : Type} {enc : TypeId × Value → H} {W : World} {r : Reach} {b0 : Nat} {v : Value} {d : DataW H} {p : List MemPlace}
    (hv : Value.okWide Try.prog W r b0 22 v) (h : DataW.Trod enc Try.prog W 0 (fun _ => true) true 22 v d p) :
    ∃ (A : Option Addr) (c : Nat) (xs : List Q4), v = .slice A xs.length c ∧ xs.length ≤ maxLen ∧ Quads W A xs :=
  open_quads Try.underlying22 Try.underlying34 (by kernel_rfl) (by kernel_rfl) Try.underlying3 Try.underlying3 Try.underlying3 Try.underlying3 hv h
end Go.Proofs.Ytchnhmcedmicgaa.Led
