/- Layer 15 in plain words: a free slot's word. -/
import Derived.Test.YtloflnachpjlgaaPackL
import Derived.Test.YtloflnachpjlgaaPackP
import Derived.Test.YtloflnachpjlgaaAidI64
set_option linter.unusedSimpArgs false
namespace Go.Proofs.Ytloflnachpjlgaa.New
open Go.RowKit Go.Proofs.Ytloflnachpjlgaa.Aid Go.Proofs.Ytloflnachpjlgaa.Pack
/-- The word of a slot. -/
def wordV (s n c : Int) : Int := n + 1 + 256 * s + 65536 * c + 7382074224233414656
def wordB (s n c : Int) : Bool := decide (0 ≤ s ∧ s ≤ 127) && (decide (-1 ≤ n ∧ n ≤ 127) && decide (0 ≤ c ∧ c ≤ 11))
theorem wordB_iff {s n c : Int} : wordB s n c = true ↔ (0 ≤ s ∧ s ≤ 127) ∧ (-1 ≤ n ∧ n ≤ 127) ∧ 0 ≤ c ∧ c ≤ 11 := by
  unfold wordB
  simp
theorem bit_nat (a j : Nat) (_ha : a < 18446744073709551616) (hj : j < 64) : (B (a : Int)).getLsbD j = a.testBit j := by
  rw [B_nat, BitVec.getLsbD_ofNat]
  simp [hj]
theorem R_natI {a : Nat} (h : a < 18446744073709551616) : R (a : Int) := by unfold R; omega
theorem pow_le64 {n : Nat} (h : n ≤ 64) : 2 ^ n ≤ 18446744073709551616 := by
  have := Nat.pow_le_pow_right (n := 2) (by decide) h
  exact this
theorem fits_nat {v n : Nat} (h1 : 1 ≤ n) (h2 : n ≤ 64) (hv : v < 2 ^ n) : (Go.bits .andNot .u64 (v : Int) (maskV n) != 0) = false := by
  have hv64 : v < 18446744073709551616 := Nat.lt_of_lt_of_le hv (pow_le64 h2)
  have hR : R (Go.bits .andNot .u64 (v : Int) (maskV n)) := R_bits _ _ _
  have h0 : Go.bits .andNot .u64 (v : Int) (maskV n) = 0 := by
    refine (word_zero hR).2 fun j hj => ?_
    rw [B_andNot, BitVec.getLsbD_and, BitVec.getLsbD_not, mask_bit _ (by omega) (by omega) j hj, bit_nat v j hv64 hj]
    by_cases h : j < n
    · have : decide ((j : Int) < (n : Int)) = true := by simpa using h
      rw [this]
      simp
    · have : v.testBit j = false := Nat.testBit_lt_two_pow (Nat.lt_of_lt_of_le hv (Nat.pow_le_pow_right (by decide) (by omega)))
      rw [this]
      simp
  rw [h0]
  rfl
theorem put_nat {x s n v : Nat} (h1 : 1 ≤ n) (h2 : s + n ≤ 64) (hx : x < 2 ^ s) (hv : v < 2 ^ n) : putV (x : Int) s n v = ((2 ^ s * v + x : Nat) : Int) := by
  have hr : rightB (s : Int) (n : Int) = true := by unfold rightB wideB; simp; omega
  have hlt : 2 ^ s * v + x < 18446744073709551616 := by
    have h3 : 2 ^ s * v + x < 2 ^ s * (v + 1) := by rw [Nat.mul_succ]; omega
    have h4 : 2 ^ s * (v + 1) ≤ 2 ^ s * 2 ^ n := Nat.mul_le_mul_left _ hv
    rw [← Nat.pow_add] at h4
    have := pow_le64 h2
    omega
  have hx64 : x < 18446744073709551616 := Nat.lt_of_lt_of_le hx (pow_le64 (by omega))
  have hv64 : v < 18446744073709551616 := Nat.lt_of_lt_of_le hv (pow_le64 (by omega))
  refine R_ext (R_putV _ _ _ _) (R_natI hlt) fun j hj => ?_
  rw [putV_bit _ _ _ _ hr (R_natI hv64) (fits_nat h1 (by omega) hv) j hj, bit_nat _ j hlt hj, Nat.testBit_two_pow_mul_add _ hx]
  by_cases h3 : j < s
  · rw [if_neg (by omega), if_pos h3, bit_nat x j hx64 hj]
  · rw [if_neg h3]
    by_cases h4 : j < s + n
    · rw [if_pos (by omega), bit_nat v _ hv64 (by omega)]
      congr 1
    · rw [if_neg (by omega), bit_nat x j hx64 hj]
      rw [Nat.testBit_lt_two_pow (Nat.lt_of_lt_of_le hx (Nat.pow_le_pow_right (by decide) (by omega)))]
      exact (Nat.testBit_lt_two_pow (Nat.lt_of_lt_of_le hv (Nat.pow_le_pow_right (by decide) (by omega)))).symm
def fieldsL : List (Int × Int) := [(0, 8), (8, 8), (16, 8), (24, 40)]
theorem apart_fields : apartGo 0 fieldsL = true := by decide +kernel
theorem pack_word {a s c : Nat} (ha : a ≤ 128) (hs : s ≤ 127) (hc : c ≤ 11) : packGo 0 fieldsL [(a : Int), (s : Int), (c : Int), 440005911841] = some (((a + 256 * s + 65536 * c + 7382074224233414656 : Nat)) : Int) := by
  have p1 : putV ((0 : Nat) : Int) ((0 : Nat) : Int) ((8 : Nat) : Int) (a : Int) = _ := put_nat (by decide) (by decide) (by decide) (show a < 2 ^ 8 by omega)
  have p2 : putV ((2 ^ 0 * a + 0 : Nat) : Int) ((8 : Nat) : Int) ((8 : Nat) : Int) (s : Int) = _ := put_nat (by decide) (by decide) (show 2 ^ 0 * a + 0 < 2 ^ 8 by omega) (show s < 2 ^ 8 by omega)
  have p3 : putV ((2 ^ 8 * s + (2 ^ 0 * a + 0) : Nat) : Int) ((16 : Nat) : Int) ((8 : Nat) : Int) (c : Int) = _ := put_nat (by decide) (by decide) (show 2 ^ 8 * s + (2 ^ 0 * a + 0) < 2 ^ 16 by omega) (show c < 2 ^ 8 by omega)
  have p4 : putV ((2 ^ 16 * c + (2 ^ 8 * s + (2 ^ 0 * a + 0)) : Nat) : Int) ((24 : Nat) : Int) ((40 : Nat) : Int) ((440005911841 : Nat) : Int) = _ := put_nat (by decide) (by decide) (show 2 ^ 16 * c + (2 ^ 8 * s + (2 ^ 0 * a + 0)) < 2 ^ 24 by omega) (by decide)
  have f1 : putB 0 8 (a : Int) = true := by
    unfold putB
    rw [show (8 : Int) = ((8 : Nat) : Int) from rfl, fits_nat (by decide) (by decide) (show a < 2 ^ 8 by omega)]
    decide
  have f2 : putB 8 8 (s : Int) = true := by
    unfold putB
    rw [show (8 : Int) = ((8 : Nat) : Int) from rfl, fits_nat (by decide) (by decide) (show s < 2 ^ 8 by omega)]
    decide
  have f3 : putB 16 8 (c : Int) = true := by
    unfold putB
    rw [show (8 : Int) = ((8 : Nat) : Int) from rfl, fits_nat (by decide) (by decide) (show c < 2 ^ 8 by omega)]
    decide
  have f4 : putB 24 40 440005911841 = true := by decide +kernel
  unfold fieldsL
  simp only [packGo, f1, f2, f3, f4, if_true]
  rw [show (putV 0 0 8 (a : Int)) = putV ((0 : Nat) : Int) ((0 : Nat) : Int) ((8 : Nat) : Int) (a : Int) from rfl, p1]
  rw [show (putV ((2 ^ 0 * a + 0 : Nat) : Int) 8 8 (s : Int)) = putV ((2 ^ 0 * a + 0 : Nat) : Int) ((8 : Nat) : Int) ((8 : Nat) : Int) (s : Int) from rfl, p2]
  rw [show (putV ((2 ^ 8 * s + (2 ^ 0 * a + 0) : Nat) : Int) 16 8 (c : Int)) = putV ((2 ^ 8 * s + (2 ^ 0 * a + 0) : Nat) : Int) ((16 : Nat) : Int) ((8 : Nat) : Int) (c : Int) from rfl, p3]
  rw [show (putV ((2 ^ 16 * c + (2 ^ 8 * s + (2 ^ 0 * a + 0)) : Nat) : Int) 24 40 440005911841) = putV ((2 ^ 16 * c + (2 ^ 8 * s + (2 ^ 0 * a + 0)) : Nat) : Int) ((24 : Nat) : Int) ((40 : Nat) : Int) ((440005911841 : Nat) : Int) from rfl, p4]
  congr 1
  omega
theorem get_nat {w s n : Nat} (hw : w < 18446744073709551616) (h2 : n < 64) (hn : 1 ≤ n) : getV (w : Int) ((s : Int), (n : Int)) = ((w / 2 ^ s % 2 ^ n : Nat) : Int) := by
  unfold getV maskV
  show Go.bits .and .u64 ((w : Int) / 2 ^ (s : Int).toNat) (18446744073709551615 / 2 ^ (64 - (n : Int)).toNat) = _
  rw [Int.toNat_natCast, show (64 - (n : Int)).toNat = 64 - n by omega]
  have h1 : (w : Int) / 2 ^ s = ((w / 2 ^ s : Nat) : Int) := by simp
  have h3 : (18446744073709551615 : Int) / 2 ^ (64 - n) = ((2 ^ n - 1 : Nat) : Int) := by
    have h4 : (18446744073709551615 : Int) / 2 ^ (64 - n) = ((18446744073709551615 / 2 ^ (64 - n) : Nat) : Int) := by simp
    rw [h4]
    congr 1
    have h5 : 2 ^ (64 - n) * 2 ^ n = 18446744073709551616 := by
      rw [← Nat.pow_add, show 64 - n + n = 64 by omega]
    have hp : 0 < 2 ^ (64 - n) := Nat.two_pow_pos _
    have hq : 0 < 2 ^ n := Nat.two_pow_pos _
    have h6 : 18446744073709551615 = 2 ^ (64 - n) * (2 ^ n - 1) + (2 ^ (64 - n) - 1) := by
      rw [Nat.mul_sub, h5]
      have : 2 ^ (64 - n) ≤ 18446744073709551616 := pow_le64 (by omega)
      omega
    rw [h6, Nat.mul_add_div hp, Nat.div_eq_of_lt (by omega)]
    omega
  rw [h1, h3, u64_and_nat _ _ (Nat.lt_of_le_of_lt (Nat.div_le_self _ _) hw), Nat.and_two_pow_sub_one_eq_mod]
  have := pow_le64 (n := n) (by omega)
  omega
/-- What a word tells. -/
def slotOf (w : Nat) : Nat := w / 256 % 256
def nextOf (w : Nat) : Int := ((w % 256 : Nat) : Int) - 1
def classOf (w : Nat) : Nat := w / 65536 % 256
def wordOk (w : Nat) : Bool := wordB (slotOf w) (nextOf w) (classOf w) && (wordV (slotOf w) (nextOf w) (classOf w) == (w : Int))
theorem word_of {s n c : Int} (h : wordB s n c = true) : ∃ w : Nat, wordV s n c = (w : Int) ∧ w < 18446744073709551616 ∧ ((slotOf w : Nat) : Int) = s ∧ nextOf w = n ∧ ((classOf w : Nat) : Int) = c ∧ wordOk w = true := by
  obtain ⟨⟨h1, h2⟩, ⟨h3, h4⟩, h5, h6⟩ := wordB_iff.1 h
  obtain ⟨s', rfl⟩ := Int.eq_ofNat_of_zero_le h1
  obtain ⟨c', rfl⟩ := Int.eq_ofNat_of_zero_le h5
  obtain ⟨a, ha⟩ := Int.eq_ofNat_of_zero_le (show 0 ≤ n + 1 by omega)
  obtain rfl : n = (a : Int) - 1 := by omega
  have e1 : slotOf (a + 256 * s' + 65536 * c' + 7382074224233414656) = s' := by unfold slotOf; omega
  have e2 : nextOf (a + 256 * s' + 65536 * c' + 7382074224233414656) = (a : Int) - 1 := by unfold nextOf; omega
  have e3 : classOf (a + 256 * s' + 65536 * c' + 7382074224233414656) = c' := by unfold classOf; omega
  have ew : wordV (s' : Int) ((a : Int) - 1) (c' : Int) = ((a + 256 * s' + 65536 * c' + 7382074224233414656 : Nat) : Int) := by unfold wordV; omega
  refine ⟨_, ew, by omega, by rw [e1], e2, by rw [e3], ?_⟩
  unfold wordOk
  rw [e1, e2, e3, h, ew]
  simp
end Go.Proofs.Ytloflnachpjlgaa.New
