/- The walk of EpochRises at every input. -/
import Derived.Test.YtchnhmcedmicgaaEpoX
namespace Go.Proofs.Ytchnhmcedmicgaa.Epo
open Go.RowKit Go.Proofs.Ytchnhmcedmicgaa.Aid
theorem rises_walk (n : Int) (xs ys : List Int) (A : Option Addr) (ca : Nat) (B : Option Addr) (cb : Nat) {w : World} (hx : Ints w .i64 A xs) (hy : Ints w .i64 B ys) (_ : xs.length ≤ maxLen) (_ : ys.length ≤ maxLen) :
    Calls Try.prog 7 #[.int .i64 n, .slice A xs.length ca, .slice B ys.length cb] w fun e w' => e = .returned (.bool true) ∧ Below w.heap.size w w' := by
  by_cases hl : 200 < (xs.length : Int)
  · clear hx hy
    go_enter Try.func7, Try.ntmps7
    go_wp2_with fail
    refine (alive_calls w).mono ?_
    rintro e w1 ⟨rfl, hb1⟩
    go_wp2_with fail
    go_ret
    exact ⟨rfl, hb1⟩
  · by_cases hm : 200 < (ys.length : Int)
    · clear hx hy
      go_enter Try.func7, Try.ntmps7
      go_wp2_with fail
      refine (alive_calls w).mono ?_
      rintro e w1 ⟨rfl, hb1⟩
      go_wp2_with fail
      go_ret
      exact ⟨rfl, hb1⟩
    · by_cases h0 : 1 ≤ n ∧ n ≤ 64
      · obtain ⟨k, rfl⟩ := Int.eq_ofNat_of_zero_le (show 0 ≤ n by omega)
        exact rises_yes w k A ca xs B cb ys hx hy (by omega) (by omega) hl hm
      · have h0' : n < 1 ∨ 64 < n := by omega
        clear hx hy h0
        go_enter Try.func7, Try.ntmps7
        go_wp2_with fail
        refine (alive_calls w).mono ?_
        rintro e w1 ⟨rfl, hb1⟩
        go_wp2_with fail
        refine (new_no w1 n h0').mono ?_
        rintro e w2 ⟨rfl, rfl⟩
        go_wp2_with fail
        refine (rnew_no w1 n h0').mono ?_
        rintro e w3 ⟨rfl, rfl⟩
        go_wp2_with fail
        go_ret
        exact ⟨rfl, hb1⟩
end Go.Proofs.Ytchnhmcedmicgaa.Epo
