/- The count of ones tells a power, for the numbers up to 4096. -/
import Derived.Test.YthkpfeikpmcpeaaSizeA
set_option linter.unusedVariables false
namespace Go.Proofs.Ythkpfeikpmcpeaa.Sizes
open Go.RowKit Go.Proofs.Ythkpfeikpmcpeaa.Aid
/-- Ones, and a power, of the numbers up to 4096. -/
theorem ones_pow (n : Nat) (h1 : 1 ≤ n) (h2 : n ≤ 4096) : (onesV n == 1) = isPow n := by
  have key : (List.range 4097).all (fun n => n == 0 || ((onesV (n : Nat) == 1) == isPow (n : Nat))) = true := by decide +kernel
  have := List.all_eq_true.1 key n (List.mem_range.2 (by omega))
  simp only [Bool.or_eq_true, beq_iff_eq] at this
  rcases this with h | h
  · omega
  · exact h
end Go.Proofs.Ythkpfeikpmcpeaa.Sizes
