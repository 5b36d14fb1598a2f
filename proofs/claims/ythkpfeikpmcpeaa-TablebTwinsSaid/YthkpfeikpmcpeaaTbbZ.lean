/- Layer 6: the plain law of the twins. -/
import Derived.Test.YthkpfeikpmcpeaaTbbP
set_option linter.unusedVariables false
namespace Go.Proofs.Ythkpfeikpmcpeaa.Tbb
open Go.RowKit Go.Proofs.Ythkpfeikpmcpeaa.Aid Go.Proofs.Ythkpfeikpmcpeaa.Tab
set_option maxRecDepth 100000
/-- A twin's twin is the class itself; both have one size. -/
theorem twin_twin (v c : Int) (h : 0 ≤ twinV v c) : twinV (1 - v) (twinV v c) = c ∧ sizeT (1 - v) (twinV v c) = sizeT v c ∧ slotsT (1 - v) (twinV v c) = slotsT v c ∧ (v = 0 ∨ v = 1) := by
  have hs : sizeT v c ≠ 0 := fun hz => by unfold twinV at h; rw [if_pos hz] at h; exact absurd h (by decide)
  have hv := sizeT_version v c hs
  have hc : 0 ≤ c ∧ c < 16 := by
    apply Classical.byContradiction
    intro hc
    apply hs
    have := tb_len v
    unfold sizeT
    rw [if_neg (by omega)]
  have key : ∀ v : Nat, v < 2 → (List.range 16).all (fun c => decide (0 ≤ twinV (v : Nat) (c : Nat) → twinV (1 - ((v : Nat) : Int)) (twinV (v : Nat) (c : Nat)) = (c : Nat) ∧ sizeT (1 - ((v : Nat) : Int)) (twinV (v : Nat) (c : Nat)) = sizeT (v : Nat) (c : Nat) ∧ slotsT (1 - ((v : Nat) : Int)) (twinV (v : Nat) (c : Nat)) = slotsT (v : Nat) (c : Nat))) = true := by
    intro v hv
    rcases (by omega : v = 0 ∨ v = 1) with rfl | rfl
    · decide +kernel
    · decide +kernel
  obtain ⟨m, rfl⟩ := Int.eq_ofNat_of_zero_le hc.1
  obtain ⟨u, rfl⟩ := Int.eq_ofNat_of_zero_le (show 0 ≤ v by omega)
  obtain ⟨h1, h2, h3⟩ := of_decide_eq_true (List.all_eq_true.1 (key u (by omega)) m (List.mem_range.2 (by omega))) h
  exact ⟨h1, h2, h3, hv⟩
end Go.Proofs.Ythkpfeikpmcpeaa.Tbb
