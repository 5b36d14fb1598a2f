/- Whole numbers of 64 bits as bit vectors: each operation of the program's on words, bit by bit. Nothing of the program stands here. -/
import Derived.Laws.BitsAllLaws
import Derived.RowKit
namespace Go.Proofs.Ytloflnachpjlgaa.Aid
open Go.RowKit

/-- The 64 bits of a number. -/
def B (x : Int) : BitVec 64 := BitVec.ofInt 64 x
/-- A word. -/
def R (x : Int) : Prop := 0 ≤ x ∧ x < 18446744073709551616
/-- A signed number. -/
def S (x : Int) : Prop := -9223372036854775808 ≤ x ∧ x < 9223372036854775808

theorem u64_wrap (x : Int) : IntKind.u64.wrap x = x % 18446744073709551616 := by simp [IntKind.wrap, IntKind.bits, IntKind.signed]
theorem R_wrap (x : Int) : R (IntKind.u64.wrap x) := by rw [u64_wrap]; unfold R; omega
theorem R_bits (o : BinOp) (a b : Int) : R (Go.bits o .u64 a b) := R_wrap _
theorem S_wrap64 (x : Int) : S (wrap64 x) := by unfold S wrap64; omega
theorem B_mod (x : Int) : B (x % 18446744073709551616) = B x := by
  unfold B
  apply BitVec.eq_of_toNat_eq
  simp [BitVec.toNat_ofInt]
theorem B_wrap (x : Int) : B (IntKind.u64.wrap x) = B x := by rw [u64_wrap, B_mod]
theorem B_wrap64 (x : Int) : B (wrap64 x) = B x := by
  rw [← B_mod (wrap64 x), ← B_mod x]
  congr 1
  unfold wrap64; omega
theorem B_toNat (x : BitVec 64) : B (x.toNat : Int) = x := by
  unfold B; rw [BitVec.ofInt_natCast]; simp
theorem B_and (a b : Int) : B (Go.bits .and .u64 a b) = B a &&& B b := by
  show B (IntKind.u64.wrap _) = _
  rw [B_wrap]; exact B_toNat _
theorem B_or (a b : Int) : B (Go.bits .or .u64 a b) = B a ||| B b := by
  show B (IntKind.u64.wrap _) = _
  rw [B_wrap]; exact B_toNat _
theorem B_xor (a b : Int) : B (Go.bits .xor .u64 a b) = B a ^^^ B b := by
  show B (IntKind.u64.wrap _) = _
  rw [B_wrap]; exact B_toNat _
theorem B_andNot (a b : Int) : B (Go.bits .andNot .u64 a b) = B a &&& ~~~ (B b) := by
  show B (IntKind.u64.wrap _) = _
  rw [B_wrap]; exact B_toNat _
theorem R_of (x : Int) (h : R x) : ((B x).toNat : Int) = x := by
  unfold B R at *
  rw [BitVec.toNat_ofInt]
  have : x % (2 ^ 64 : Nat) = x := by omega
  rw [this]; omega
theorem S_of (x : Int) (h : S x) : (B x).toInt = x := by
  unfold B S at *
  rw [BitVec.toInt_ofInt, Int.bmod_def]
  omega
theorem R_inj {x y : Int} (hx : R x) (hy : R y) (h : B x = B y) : x = y := by rw [← R_of x hx, ← R_of y hy, h]
theorem S_inj {x y : Int} (hx : S x) (hy : S y) (h : B x = B y) : x = y := by rw [← S_of x hx, ← S_of y hy, h]
/-- Two words are one if they have the same bits. -/
theorem R_ext {x y : Int} (hx : R x) (hy : R y) (h : ∀ i, i < 64 → (B x).getLsbD i = (B y).getLsbD i) : x = y :=
  R_inj hx hy (BitVec.eq_of_getLsbD_eq h)
theorem S_ext {x y : Int} (hx : S x) (hy : S y) (h : ∀ i, i < 64 → (B x).getLsbD i = (B y).getLsbD i) : x = y :=
  S_inj hx hy (BitVec.eq_of_getLsbD_eq h)
theorem B_zero : B 0 = 0#64 := rfl
theorem R_zero : R 0 := by unfold R; omega
theorem word_zero {x : Int} (hx : R x) : x = 0 ↔ ∀ i, i < 64 → (B x).getLsbD i = false := by
  constructor
  · rintro rfl i _; rw [B_zero]; simp
  · intro h; exact R_ext hx R_zero (fun i hi => by rw [h i hi, B_zero]; simp)
/-- A word shifted to the left. -/
theorem B_shl (x : Int) (n : Nat) : B (IntKind.u64.wrap (x * 2 ^ (min n 64))) = B x <<< n := by
  rw [B_wrap]
  apply BitVec.eq_of_toNat_eq
  rw [BitVec.toNat_shiftLeft]
  unfold B
  rw [BitVec.toNat_ofInt, BitVec.toNat_ofInt, Nat.shiftLeft_eq]
  by_cases hn : n ≤ 64
  · rw [Nat.min_eq_left hn]
    have e : (x * 2 ^ n) % ((2 ^ 64 : Nat) : Int) = ((((x % ((2 ^ 64 : Nat) : Int)).toNat * 2 ^ n % 2 ^ 64 : Nat)) : Int) := by
      have h1 : ((x % ((2 ^ 64 : Nat) : Int)).toNat : Int) = x % ((2 ^ 64 : Nat) : Int) := by omega
      rw [Int.natCast_emod, Int.natCast_mul, h1, Int.natCast_pow]
      rw [Int.mul_emod (x % _) _, Int.emod_emod_of_dvd _ (Int.dvd_refl _), ← Int.mul_emod]
      rfl
    rw [e]; rfl
  · rw [Nat.min_eq_right (by omega)]
    have e1 : x * 2 ^ 64 % ((2 ^ 64 : Nat) : Int) = 0 := Int.mul_emod_left x _
    have e2 : (x % ((2 ^ 64 : Nat) : Int)).toNat * 2 ^ n % 2 ^ 64 = 0 := by
      have : n = (n - 64) + 64 := by omega
      rw [this, Nat.pow_add, ← Nat.mul_assoc]; exact Nat.mul_mod_left _ _
    rw [e1, e2]; rfl
/-- A word shifted to the right. -/
theorem B_shr (x : Int) (hx : R x) (n : Nat) : B (x / 2 ^ (min n 64)) = B x >>> n := by
  obtain ⟨m, rfl⟩ := Int.eq_ofNat_of_zero_le hx.1
  have hm : m < 2 ^ 64 := by have := hx.2; omega
  apply BitVec.eq_of_toNat_eq
  rw [BitVec.toNat_ushiftRight]
  have e : ((m : Int) / 2 ^ (min n 64)) = ((m / 2 ^ (min n 64) : Nat) : Int) := by simp
  rw [e]
  unfold B
  rw [BitVec.ofInt_natCast, BitVec.ofInt_natCast, BitVec.toNat_ofNat, BitVec.toNat_ofNat, Nat.mod_eq_of_lt hm, Nat.shiftRight_eq_div_pow]
  by_cases hn : n ≤ 64
  · rw [Nat.min_eq_left hn]
    exact Nat.mod_eq_of_lt (Nat.lt_of_le_of_lt (Nat.div_le_self _ _) hm)
  · rw [Nat.min_eq_right (by omega)]
    have e1 : m / 2 ^ 64 = 0 := Nat.div_eq_of_lt hm
    have e2 : m / 2 ^ n = 0 := Nat.div_eq_of_lt (Nat.lt_of_lt_of_le hm (Nat.pow_le_pow_right (by decide) (by omega)))
    rw [e1, e2]
theorem R_shr (x : Int) (hx : R x) (n : Nat) : R (x / 2 ^ n) := by
  obtain ⟨m, rfl⟩ := Int.eq_ofNat_of_zero_le hx.1
  have hm := hx.2
  have e : ((m : Int) / 2 ^ n) = ((m / 2 ^ n : Nat) : Int) := by simp
  rw [e]
  have := Nat.div_le_self m (2 ^ n)
  generalize m / 2 ^ n = q at *
  unfold R; omega
/-- A signed number shifted to the right. -/
theorem B_sar (x : Int) (hx : S x) (n : Nat) : B (x / 2 ^ n) = (B x).sshiftRight n := by
  apply BitVec.eq_of_toInt_eq
  rw [BitVec.toInt_sshiftRight, S_of x hx, Int.shiftRight_eq_div_pow]
  refine S_of _ ?_
  have hp : (0 : Int) < 2 ^ n := Int.pow_pos (by decide)
  have h1 : (1 : Int) ≤ 2 ^ n := hp
  unfold S at *
  constructor
  · have := Int.ediv_le_ediv hp (a := -9223372036854775808) (b := x) hx.1
    have h2 : -9223372036854775808 ≤ (-9223372036854775808 : Int) / 2 ^ n := by
      rw [Int.le_ediv_iff_mul_le hp]
      have : (9223372036854775808 : Int) * 1 ≤ 9223372036854775808 * 2 ^ n := Int.mul_le_mul_of_nonneg_left h1 (by decide)
      omega
    omega
  · have : x / 2 ^ n < 9223372036854775808 := by
      rw [Int.ediv_lt_iff_lt_mul hp]
      have : (9223372036854775808 : Int) * 1 ≤ 9223372036854775808 * 2 ^ n := Int.mul_le_mul_of_nonneg_left h1 (by decide)
      omega
    exact this
/-- A bit of a word, by division. -/
theorem bit_div (x : Int) (hx : R x) (i : Nat) : (B x).getLsbD i = decide (x / 2 ^ i % 2 = 1) := by
  obtain ⟨m, rfl⟩ := Int.eq_ofNat_of_zero_le hx.1
  have hm : m < 2 ^ 64 := by have := hx.2; omega
  unfold B
  rw [BitVec.ofInt_natCast, BitVec.getLsbD, BitVec.toNat_ofNat, Nat.mod_eq_of_lt hm, Nat.testBit_eq_decide_div_mod_eq]
  have e : ((m : Int) / 2 ^ i % 2) = ((m / 2 ^ i % 2 : Nat) : Int) := by simp
  rw [e]
  congr 1
  apply propext
  omega
end Go.Proofs.Ytloflnachpjlgaa.Aid
