/- The walk of RemoteEmpty at every input. -/
import Derived.Test.YtchnhmcedmicgaaRemS
import Derived.Test.YtchnhmcedmicgaaRemK
namespace Go.Proofs.Ytchnhmcedmicgaa.Rem
open Go.ChangeShapes Go.WideShapes Go.RowKit Go.Proofs.Ytchnhmcedmicgaa.Aid
set_option maxRecDepth 8000 in
theorem empty_walk (n : Int) (xs : List Q4) (k : Int) (A : Option Addr) (ca : Nat) {w : World} (hx : QuadsW w A xs) (_ : xs.length ≤ maxLen) :
    Calls Try.prog 10 #[.int .i64 n, .slice A xs.length ca, .int .i64 k] w fun e w' => e = .returned (.bool true) ∧ Below w.heap.size w w' := by
  by_cases hl : 100 < (xs.length : Int)
  · clear hx
    go_enter Try.func10, Try.ntmps10
    go_wp2_with fail
    refine (alive_calls w).mono ?_
    rintro e w1 ⟨rfl, hb1⟩
    go_wp2_with fail
    go_ret
    exact ⟨rfl, hb1⟩
  · by_cases h0 : 1 ≤ n ∧ n ≤ 64
    · obtain ⟨j, rfl⟩ := Int.eq_ofNat_of_zero_le (show 0 ≤ n by omega)
      exact empty_yes w j A ca xs k hx (by omega) (by omega) hl
    · have h0' := Lib.hid (show n < 1 ∨ 64 < n by omega)
      clear hx h0
      go_enter Try.func10, Try.ntmps10
      go_wp2_with fail
      refine (alive_calls w).mono ?_
      rintro e w1 ⟨rfl, hb1⟩
      go_wp2_with fail
      refine (begin_no w1 n h0'.out).mono ?_
      rintro e w2 ⟨rfl, rfl⟩
      go_wp2_with fail
      go_ret
      exact ⟨rfl, hb1⟩
end Go.Proofs.Ytchnhmcedmicgaa.Rem
