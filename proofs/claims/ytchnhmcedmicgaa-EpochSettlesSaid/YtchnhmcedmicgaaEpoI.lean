/- The walk of EpochSettles at every input. -/
import Derived.Test.YtchnhmcedmicgaaEpoH
namespace Go.Proofs.Ytchnhmcedmicgaa.Epo
open Go.RowKit Go.Proofs.Ytchnhmcedmicgaa.Aid
theorem settles_walk (n : Int) (xs : List Int) (t : Int) (A : Option Addr) (ca : Nat) {w : World} (hx : Ints w .i64 A xs) (_ : xs.length ≤ maxLen) :
    Calls Try.prog 6 #[.int .i64 n, .slice A xs.length ca, .int .i64 t] w fun e w' => e = .returned (.bool true) ∧ Below w.heap.size w w' := by
  by_cases hl : 200 < (xs.length : Int)
  · clear hx
    go_enter Try.func6, Try.ntmps6
    go_wp2_with fail
    refine (alive_calls w).mono ?_
    rintro e w1 ⟨rfl, hb1⟩
    go_wp2_with fail
    go_ret
    exact ⟨rfl, hb1⟩
  · by_cases h0 : 1 ≤ n ∧ n ≤ 64
    · obtain ⟨k, rfl⟩ := Int.eq_ofNat_of_zero_le (show 0 ≤ n by omega)
      exact settles_yes w k A ca xs t hx (by omega) (by omega) hl
    · have h0' : n < 1 ∨ 64 < n := by omega
      clear hx h0
      go_enter Try.func6, Try.ntmps6
      go_wp2_with fail
      refine (alive_calls w).mono ?_
      rintro e w1 ⟨rfl, hb1⟩
      go_wp2_with fail
      refine (new_no w1 n h0').mono ?_
      rintro e w2 ⟨rfl, rfl⟩
      go_wp2_with fail
      refine (rnew_no w1 n h0').mono ?_
      rintro e w3 ⟨rfl, rfl⟩
      go_wp2_with fail
      go_ret
      exact ⟨rfl, hb1⟩
end Go.Proofs.Ytchnhmcedmicgaa.Epo
