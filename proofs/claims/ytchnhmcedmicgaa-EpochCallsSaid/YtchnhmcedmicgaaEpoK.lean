/- The walk of EpochCalls at every input. -/
import Derived.Test.YtchnhmcedmicgaaEpoJ
namespace Go.Proofs.Ytchnhmcedmicgaa.Epo
open Go.RowKit Go.Proofs.Ytchnhmcedmicgaa.Aid
set_option maxRecDepth 8000 in
theorem calls_walk (n : Int) (xs : List Int) (ask : Int) (ys : List Int) (A : Option Addr) (ca : Nat) (B : Option Addr) (cb : Nat) {w : World} (hx : Ints w .i64 A xs) (hy : Ints w .u64 B ys) (_ : xs.length ≤ maxLen) (hyl : ys.length ≤ maxLen) (hw : ∀ k, k < ys.length → (Lit.int .u64 (ys.getD k 0)).wf = true) :
    Calls Try.prog 5 #[.int .i64 n, .slice A xs.length ca, .int .i64 ask, .slice B ys.length cb] w fun e w' => e = .returned (.bool true) ∧ Below w.heap.size w w' := by
  by_cases hl : 200 < (xs.length : Int)
  · clear hx hy hw hyl
    go_enter Try.func5, Try.ntmps5
    go_wp2_with fail
    refine (alive_calls w).mono ?_
    rintro e w1 ⟨rfl, hb1⟩
    go_wp2_with fail
    go_ret
    exact ⟨rfl, hb1⟩
  · by_cases h0 : 1 ≤ n ∧ n ≤ 64
    · obtain ⟨k, rfl⟩ := Int.eq_ofNat_of_zero_le (show 0 ≤ n by omega)
      exact calls_yes w k A ca xs ask B cb ys hx hy (fun y hy => by
        obtain ⟨i, hi, rfl⟩ := List.mem_iff_getElem.1 hy
        have := hw i hi
        rwa [List.getD_eq_getElem?_getD, List.getElem?_eq_getElem hi] at this) hyl (by omega) (by omega) hl
    · have h0' : n < 1 ∨ 64 < n := by omega
      clear hx hy hw hyl h0
      go_enter Try.func5, Try.ntmps5
      go_wp2_with fail
      refine (alive_calls w).mono ?_
      rintro e w1 ⟨rfl, hb1⟩
      go_wp2_with fail
      refine (new_no w1 n h0').mono ?_
      rintro e w2 ⟨rfl, rfl⟩
      go_wp2_with fail
      refine (rnew_no w1 n h0').mono ?_
      rintro e w3 ⟨rfl, rfl⟩
      go_wp2_with fail
      go_ret
      exact ⟨rfl, hb1⟩
end Go.Proofs.Ytchnhmcedmicgaa.Epo
