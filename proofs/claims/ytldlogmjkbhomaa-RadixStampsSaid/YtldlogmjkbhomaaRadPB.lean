/- Plain laws on words: a mask's bits, a field's bits. No walk stands here. -/
import Derived.Test.YtldlogmjkbhomaaAidBits
import Derived.Test.YtldlogmjkbhomaaRadPA
namespace Go.Proofs.Ytldlogmjkbhomaa.Pack
open Go.RowKit Go.Proofs.Ytldlogmjkbhomaa.Aid
theorem shr_B (x : Int) (hx : R x) (n : Nat) (hn : n ≤ 64) : B (x / 2 ^ n) = B x >>> n := by
  have := B_shr x hx n
  rwa [Nat.min_eq_left hn] at this
theorem shl_B (x : Int) (n : Nat) (hn : n ≤ 64) : B (IntKind.u64.wrap (x * 2 ^ n)) = B x <<< n := by
  have := B_shl x n
  rwa [Nat.min_eq_left hn] at this
theorem R_all : R 18446744073709551615 := by unfold R; omega
theorem B_all : B 18446744073709551615 = BitVec.allOnes 64 := rfl
theorem R_mask (n : Int) : R (maskV n) := R_shr _ R_all _
theorem mask_bit (n : Int) (h1 : 1 ≤ n) (h2 : n ≤ 64) (j : Nat) (hj : j < 64) : (B (maskV n)).getLsbD j = decide ((j : Int) < n) := by
  unfold maskV
  rw [shr_B _ R_all _ (by omega), B_all, BitVec.getLsbD_ushiftRight, BitVec.getLsbD_allOnes]
  apply decide_eq_decide.2; omega
theorem not_above {v n : Int} (_hv : R v) (h1 : 1 ≤ n) (h2 : n ≤ 64) (h : (Go.bits .andNot .u64 v (maskV n) != 0) = false) (j : Nat) (hj : n ≤ j) : (B v).getLsbD j = false := by
  by_cases h64 : j < 64
  · have hz : Go.bits .andNot .u64 v (maskV n) = 0 := by simpa using h
    have := (word_zero (R_bits _ _ _)).1 hz j h64
    rw [B_andNot, BitVec.getLsbD_and, BitVec.getLsbD_not, mask_bit n h1 h2 j h64] at this
    have e : decide ((j : Int) < n) = false := decide_eq_false (by omega)
    rw [e] at this
    simpa [h64] using this
  · exact BitVec.getLsbD_of_ge _ _ (by omega)
theorem putV_bit (x s n v : Int) (h : rightB s n = true) (hv : R v) (hva : (Go.bits .andNot .u64 v (maskV n) != 0) = false) (j : Nat) (hj : j < 64) :
    (B (putV x s n v)).getLsbD j = (if s ≤ j ∧ (j : Int) < s + n then (B v).getLsbD (j - s.toNat) else (B x).getLsbD j) := by
  obtain ⟨h1, h2, h3, h4, h5⟩ := rightB_true h
  unfold putV
  rw [B_or, BitVec.getLsbD_or, B_andNot, BitVec.getLsbD_and, BitVec.getLsbD_not, shl_B _ _ (by omega), shl_B _ _ (by omega), BitVec.getLsbD_shiftLeft, BitVec.getLsbD_shiftLeft]
  by_cases hs : (j : Int) < s
  · have e : decide (j < s.toNat) = true := decide_eq_true (by omega)
    rw [if_neg (by omega), e]; simp [hj]
  · have e : decide (j < s.toNat) = false := decide_eq_false (by omega)
    have e64 : decide (j < 64) = true := by simp [hj]
    rw [e, e64]
    by_cases hn : (j : Int) < s + n
    · rw [if_pos (by omega), mask_bit n h1 h2 _ (by omega)]
      have e2 : decide (((j - s.toNat : Nat) : Int) < n) = true := decide_eq_true (by omega)
      rw [e2]; simp
    · rw [if_neg (by omega), mask_bit n h1 h2 _ (by omega), not_above hv h1 h2 hva _ (by omega)]
      have e2 : decide (((j - s.toNat : Nat) : Int) < n) = false := decide_eq_false (by omega)
      rw [e2]; simp
theorem R_putV (x s n v : Int) : R (putV x s n v) := R_bits _ _ _
theorem clean_of_bits {v n : Int} (h1 : 1 ≤ n) (h2 : n ≤ 64) (h : ∀ j : Nat, j < 64 → n ≤ j → (B v).getLsbD j = false) : (Go.bits .andNot .u64 v (maskV n) != 0) = false := by
  have hz : Go.bits .andNot .u64 v (maskV n) = 0 := (word_zero (R_bits _ _ _)).2 fun j hj => by
    rw [B_andNot, BitVec.getLsbD_and, BitVec.getLsbD_not, mask_bit n h1 h2 j hj]
    by_cases hn : (j : Int) < n
    · simp [hn]
    · rw [h j hj (by omega)]; simp
  rw [hz]; rfl
end Go.Proofs.Ytldlogmjkbhomaa.Pack
