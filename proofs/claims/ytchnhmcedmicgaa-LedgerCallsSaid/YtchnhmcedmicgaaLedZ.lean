/- The walk of LedgerBack at every input. -/
import Derived.Test.YtchnhmcedmicgaaLedY
namespace Go.Proofs.Ytchnhmcedmicgaa.Led
open Go.RowKit Go.Proofs.Ytchnhmcedmicgaa.Aid
theorem back_walk (cap : Int) (xs : List Q4) (A : Option Addr) (ca : Nat) (k n : Int) {w : World} (hx : Quads w A xs) (_ : xs.length ≤ maxLen) :
    Calls Try.prog 8 #[.int .i64 cap, .slice A xs.length ca, .int .i64 k, .int .i64 n] w fun e w' => e = .returned (.bool true) ∧ Below w.heap.size w w' := by
  by_cases hl : 200 < (xs.length : Int)
  · clear hx
    go_enter Try.func8, Try.ntmps8
    go_wp2_with fail
    refine (alive_calls w).mono ?_
    rintro e w1 ⟨rfl, hb1⟩
    go_wp2_with fail
    go_ret
    exact ⟨rfl, hb1⟩
  · by_cases h0 : 0 ≤ cap
    · by_cases h1 : cap ≤ 1099511627776
      · exact back_yes w cap A ca xs k n hx h0 h1 hl
      · have h1' : 1099511627776 < cap := by omega
        clear hx h1
        go_enter Try.func8, Try.ntmps8
        go_wp2_with fail
        refine (alive_calls w).mono ?_
        rintro e w1 ⟨rfl, hb1⟩
        go_wp2_with fail
        refine (new_no w1 cap (.inr h1')).mono ?_
        rintro e w2 ⟨rfl, rfl⟩
        go_wp2_with fail
        go_ret
        exact ⟨rfl, hb1⟩
    · have h0' : cap < 0 := by omega
      clear hx h0
      go_enter Try.func8, Try.ntmps8
      go_wp2_with fail
      refine (alive_calls w).mono ?_
      rintro e w1 ⟨rfl, hb1⟩
      go_wp2_with fail
      refine (new_no w1 cap (.inl h0')).mono ?_
      rintro e w2 ⟨rfl, rfl⟩
      go_wp2_with fail
      go_ret
      exact ⟨rfl, hb1⟩
end Go.Proofs.Ytchnhmcedmicgaa.Led
