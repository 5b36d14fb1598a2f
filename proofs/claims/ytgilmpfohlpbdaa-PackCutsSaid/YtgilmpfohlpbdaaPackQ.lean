/- Plain laws of layer 1 for turns: there and back, two steps and their sum, cut numbers fit. No walk stands here. -/
import Derived.Test.YtgilmpfohlpbdaaPackT
namespace Go.Proofs.Ytgilmpfohlpbdaa.Pack
open Go.RowKit Go.Proofs.Ytgilmpfohlpbdaa.Aid
theorem clean_of_bits {v n : Int} (h1 : 1 ≤ n) (h2 : n ≤ 64) (h : ∀ j : Nat, j < 64 → n ≤ j → (B v).getLsbD j = false) : (Go.bits .andNot .u64 v (maskV n) != 0) = false := by
  have hz : Go.bits .andNot .u64 v (maskV n) = 0 := (word_zero (R_bits _ _ _)).2 fun j hj => by
    rw [B_andNot, BitVec.getLsbD_and, BitVec.getLsbD_not, mask_bit n h1 h2 j hj]
    by_cases hn : (j : Int) < n
    · simp [hn]
    · rw [h j hj (by omega)]; simp
  rw [hz]; rfl
theorem sub_emod_l (x y n : Int) : (x % n - y) % n = (x - y) % n := by
  rw [Int.sub_emod, Int.emod_emod_of_dvd x (Int.dvd_refl n), ← Int.sub_emod]
theorem sub_emod_r (x y n : Int) : (x - y % n) % n = (x - y) % n := by
  rw [Int.sub_emod, Int.emod_emod_of_dvd y (Int.dvd_refl n), ← Int.sub_emod]
theorem came_mod (n m : Int) (j : Nat) : came n (m % n) j = came n m j := by
  unfold came; rw [sub_emod_r]
theorem came_came (n a b : Int) (hn : 1 ≤ n) (j : Nat) : came n a (came n b j) = came n (a + b) j := by
  have h0 := Int.emod_nonneg ((j : Int) - b) (show n ≠ 0 by omega)
  unfold came
  rw [Int.toNat_of_nonneg h0, sub_emod_l]
  congr 2
  omega
theorem came_zero (n : Int) (j : Nat) (hj : (j : Int) < n) : came n 0 j = j := by
  unfold came
  rw [Int.sub_zero, Int.emod_eq_of_lt (by omega) hj]; omega
theorem rot_clean (v n k : Int) (hv : R v) (h1 : 1 ≤ n) (h2 : n ≤ 64) (hc : (Go.bits .andNot .u64 v (maskV n) != 0) = false) : (Go.bits .andNot .u64 (rotV v n (k % n)) (maskV n) != 0) = false :=
  clean_of_bits h1 h2 fun j hj hn => by
    rw [rot_bit v n (k % n) hv h1 h2 hc (Int.emod_nonneg k (by omega)) (Int.emod_lt_of_pos k (by omega)) j hj]
    have : decide ((j : Int) < n) = false := decide_eq_false (by omega)
    rw [this]; rfl
theorem rot_rot (v n a b : Int) (hv : R v) (h1 : 1 ≤ n) (h2 : n ≤ 64) (hc : (Go.bits .andNot .u64 v (maskV n) != 0) = false) : rotV (rotV v n (a % n)) n (b % n) = rotV v n ((a + b) % n) := by
  have hc' := rot_clean v n a hv h1 h2 hc
  have z := fun k : Int => Int.emod_nonneg k (show n ≠ 0 by omega)
  have l := fun k : Int => Int.emod_lt_of_pos k (show 0 < n by omega)
  apply R_ext (R_rotV _ _ _) (R_rotV _ _ _)
  intro j hj
  rw [rot_bit _ n (b % n) (R_rotV _ _ _) h1 h2 hc' (z b) (l b) j hj, rot_bit v n ((a + b) % n) hv h1 h2 hc (z _) (l _) j hj]
  have hl := came_lt (m := b % n) h1 j
  rw [rot_bit v n (a % n) hv h1 h2 hc (z a) (l a) _ (by omega), came_mod, came_mod, came_mod, came_came n a b h1]
  rw [came_mod] at hl
  have : decide (((came n b j : Nat) : Int) < n) = true := decide_eq_true hl
  rw [this]; simp
theorem rot_none (v n k : Int) (hv : R v) (h1 : 1 ≤ n) (h2 : n ≤ 64) (hc : (Go.bits .andNot .u64 v (maskV n) != 0) = false) (hk : k % n = 0) : rotV v n (k % n) = v := by
  apply R_ext (R_rotV _ _ _) hv
  intro j hj
  rw [rot_bit v n _ hv h1 h2 hc (by omega) (by omega) j hj, hk]
  by_cases hn : (j : Int) < n
  · rw [came_zero n j hn]; simp [hn]
  · have : decide ((j : Int) < n) = false := decide_eq_false hn
    rw [this, not_above hv h1 h2 hc j (by omega)]; rfl
theorem unsigned_clean (v n : Int) (h1 : 1 ≤ n) (h2 : n ≤ 64) : (Go.bits .andNot .u64 (unsignedV v n) (maskV n) != 0) = false :=
  clean_of_bits h1 h2 fun j hj hn => by
    rw [unsigned_bit v n h1 h2 j hj]
    have : decide ((j : Int) < n) = false := decide_eq_false (by omega)
    rw [this]; simp
theorem unsigned_signed (x n : Int) (h1 : 1 ≤ n) (h2 : n ≤ 64) : unsignedV (signedV x n) n = unsignedV (wrap64 x) n := by
  apply R_ext (R_unsigned _ _) (R_unsigned _ _)
  intro j hj
  rw [unsigned_bit _ n h1 h2 j hj, unsigned_bit _ n h1 h2 j hj, signed_bit x n h1 h2 j hj, B_wrap64]
  by_cases hn : (j : Int) < n <;> simp [hn]
theorem signed_signed (x n : Int) (h1 : 1 ≤ n) (h2 : n ≤ 64) : signedV (IntKind.u64.wrap (signedV x n)) n = signedV x n := by
  apply S_ext (S_signed _ _) (S_signed _ _)
  intro j hj
  rw [signed_bit _ n h1 h2 j hj, signed_bit x n h1 h2 j hj, B_wrap, signed_bit x n h1 h2 (n.toNat - 1) (by omega)]
  by_cases hn : (j : Int) < n
  · rw [if_pos hn, if_pos hn, signed_bit x n h1 h2 j hj, if_pos hn]
  · rw [if_neg hn, if_neg hn, if_pos (by omega)]
theorem unsigned_small (v n : Int) (h1 : 1 ≤ n) (h2 : n < 64) : unsignedV v n < 9223372036854775808 := by
  have hR := R_unsigned v n
  have hb : (B (unsignedV v n)).getLsbD 63 = false := by
    rw [unsigned_bit v n h1 (by omega) 63 (by omega)]
    have : decide (((63 : Nat) : Int) < n) = false := decide_eq_false (by omega)
    rw [this]; simp
  rw [bit_div _ hR] at hb
  have h3 := of_decide_eq_false hb
  unfold R at hR
  omega
theorem fits_cut (x n : Int) (h : wideB n = true) : fitsB (signedV x n) n true = true := by
  obtain ⟨h1, h2⟩ := wideB_true h
  unfold fitsB
  rw [h]
  simp only [Bool.true_and, beq_iff_eq]
  exact signed_signed x n h1 h2
theorem fits_cut' (v n : Int) (h : wideB n = true) (h64 : n < 64) : fitsB (wrap64 (unsignedV v n)) n false = true := by
  obtain ⟨h1, h2⟩ := wideB_true h
  have hs := unsigned_small v n h1 h64
  have hR := R_unsigned v n
  have e0 : wrap64 (unsignedV v n) = unsignedV v n := by unfold R at hR; unfold wrap64; omega
  have e1 : IntKind.u64.wrap (unsignedV v n) = unsignedV v n := by rw [u64_wrap]; unfold R at hR; omega
  unfold fitsB
  rw [h, e0, e1]
  simp only [Bool.true_and, Bool.and_eq_true, decide_eq_true_eq, beq_iff_eq]
  refine ⟨hR.1, R_ext (R_unsigned _ _) hR fun j hj => ?_⟩
  rw [unsigned_bit _ n h1 h2 j hj, unsigned_bit v n h1 h2 j hj]
  by_cases hn : (j : Int) < n <;> simp [hn]
theorem rotR_yes {v n k : Int} (h : wideB n = true) (hc : (Go.bits .andNot .u64 v (maskV n) != 0) = false) : rotR v n k = (rotV v n (k % n), true) := by
  unfold rotR rotB
  rw [if_pos (by rw [h, hc]; rfl)]
end Go.Proofs.Ytgilmpfohlpbdaa.Pack
