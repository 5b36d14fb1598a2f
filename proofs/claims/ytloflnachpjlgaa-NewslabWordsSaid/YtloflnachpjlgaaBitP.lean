/- Rows of bits as words, in plain Lean: a word's bits, how many are set, the least one. No program stands here. -/
import Derived.Test.YtloflnachpjlgaaAidBits
import Derived.Test.YtloflnachpjlgaaAidI64
import Derived.Lib.TrailingZeros
namespace Go.Proofs.Ytloflnachpjlgaa.Bit
open Go.RowKit Go.Proofs.Ytloflnachpjlgaa.Aid
/-- The number of given bits. -/
def ofBits (f : Nat → Bool) : Nat → Nat
  | 0 => 0
  | n + 1 => ofBits f n ||| (if f n then 2 ^ n else 0)
theorem ofBits_lt (f : Nat → Bool) : ∀ n, ofBits f n < 2 ^ n
  | 0 => by simp [ofBits]
  | n + 1 => by
    unfold ofBits
    refine Nat.or_lt_two_pow (Nat.lt_of_lt_of_le (ofBits_lt f n) (Nat.pow_le_pow_right (by decide) (by omega))) ?_
    split
    · exact Nat.pow_lt_pow_right (by decide) (by omega)
    · exact Nat.two_pow_pos _
theorem ofBits_bit (f : Nat → Bool) : ∀ n j, (ofBits f n).testBit j = (decide (j < n) && f j)
  | 0, j => by simp [ofBits]
  | n + 1, j => by
    unfold ofBits
    rw [Nat.testBit_or, ofBits_bit f n j]
    by_cases h : f n = true
    · rw [if_pos h, Nat.testBit_two_pow]
      by_cases hj : n = j
      · subst hj; simp [h]
      · have : decide (j < n + 1) = decide (j < n) := by simp; omega
        simp [hj, this]
    · rw [if_neg h]
      by_cases hj : n = j
      · subst hj; simp [h]
      · have : decide (j < n + 1) = decide (j < n) := by simp; omega
        simp [this]
/-- A row's k-th word. -/
def wordN (l : List Bool) (k : Nat) : Nat := ofBits (fun j => l.getD (64 * k + j) false) 64
def word (l : List Bool) (k : Nat) : Int := (wordN l k : Int)
theorem wordN_lt (l : List Bool) (k : Nat) : wordN l k < 18446744073709551616 := ofBits_lt _ 64
theorem R_word (l : List Bool) (k : Nat) : R (word l k) := by
  have := wordN_lt l k
  unfold R word
  omega
theorem wordN_bit (l : List Bool) (k j : Nat) (hj : j < 64) : (wordN l k).testBit j = l.getD (64 * k + j) false := by
  unfold wordN
  rw [ofBits_bit]; simp [hj]
theorem B_testBit (n : Nat) (j : Nat) (hj : j < 64) : (B (n : Int)).getLsbD j = n.testBit j := by
  rw [B_nat, BitVec.getLsbD_ofNat]; simp [hj]
theorem word_bit (l : List Bool) (k j : Nat) (hj : j < 64) : (B (word l k)).getLsbD j = l.getD (64 * k + j) false := by
  unfold word
  rw [B_testBit _ _ hj, wordN_bit _ _ _ hj]
/-- A word of one bit. -/
theorem bit_one (j : Nat) (i : Nat) (hi : i < 64) : (B ((2 ^ j : Nat) : Int)).getLsbD i = decide (j = i) := by
  rw [B_testBit _ _ hi, Nat.testBit_two_pow]
theorem R_two (j : Nat) (hj : j < 64) : R ((2 ^ j : Nat) : Int) := by
  have : 2 ^ j ≤ 2 ^ 63 := Nat.pow_le_pow_right (by decide) (by omega)
  have h63 : (2 : Nat) ^ 63 = 9223372036854775808 := by decide
  unfold R
  generalize (2 : Nat) ^ j = p at this ⊢
  omega
/-- Is a bit set? -/
theorem test_bit (x : Int) (j : Nat) (hj : j < 64) : (Go.bits .and .u64 x ((2 ^ j : Nat) : Int) != 0) = (B x).getLsbD j := by
  rw [Bool.eq_iff_iff, bne_iff_ne, ne_eq, word_zero (R_bits _ _ _)]
  constructor
  · intro h
    by_cases hb : (B x).getLsbD j = true
    · exact hb
    · exfalso
      apply h
      intro i hi
      rw [B_and, BitVec.getLsbD_and, bit_one j i hi]
      by_cases e : j = i
      · subst e; simpa using hb
      · simp [e]
  · intro h hz
    have := hz j hj
    rw [B_and, BitVec.getLsbD_and, bit_one j j hj, h] at this
    simp at this
theorem getD_set (l : List Bool) (i j : Nat) (b : Bool) (hi : i < l.length) : (l.set i b).getD j false = if i = j then b else l.getD j false := by
  simp only [List.getD_eq_getElem?_getD, List.getElem?_set]
  by_cases h : i = j
  · subst h; simp [hi]
  · simp [h]
/-- A bit is set in its word. -/
theorem or_word (l : List Bool) (i : Nat) (hi : i < l.length) : Go.bits .or .u64 (word l (i / 64)) ((2 ^ (i % 64) : Nat) : Int) = word (l.set i true) (i / 64) := by
  refine R_ext (R_bits _ _ _) (R_word _ _) fun j hj => ?_
  rw [B_or, BitVec.getLsbD_or, word_bit _ _ _ hj, word_bit _ _ _ hj, bit_one _ _ hj, getD_set _ _ _ _ hi]
  by_cases h : i = 64 * (i / 64) + j
  · rw [if_pos h]
    have : i % 64 = j := by omega
    simp [this]
  · rw [if_neg h]
    have : ¬ i % 64 = j := by omega
    simp [this]
/-- A bit is cleared in its word. -/
theorem clear_word (l : List Bool) (i : Nat) (hi : i < l.length) : Go.bits .andNot .u64 (word l (i / 64)) ((2 ^ (i % 64) : Nat) : Int) = word (l.set i false) (i / 64) := by
  refine R_ext (R_bits _ _ _) (R_word _ _) fun j hj => ?_
  rw [B_andNot, BitVec.getLsbD_and, BitVec.getLsbD_not, word_bit _ _ _ hj, word_bit _ _ _ hj, bit_one _ _ hj, getD_set _ _ _ _ hi]
  by_cases h : i = 64 * (i / 64) + j
  · rw [if_pos h]
    have : i % 64 = j := by omega
    simp [this]
  · rw [if_neg h]
    have : ¬ i % 64 = j := by omega
    simp [this, hj]
theorem other_word (l : List Bool) (i k : Nat) (b : Bool) (hi : i < l.length) (hk : k ≠ i / 64) : word (l.set i b) k = word l k := by
  refine R_ext (R_word _ _) (R_word _ _) fun j hj => ?_
  rw [word_bit _ _ _ hj, word_bit _ _ _ hj, getD_set _ _ _ _ hi, if_neg (by omega)]
/-- How many words a row has. -/
def nwords (n : Nat) : Nat := (n + 63) / 64
def words (l : List Bool) : List Int := (List.range (nwords l.length)).map (word l)
theorem words_len (l : List Bool) : (words l).length = nwords l.length := by simp [words]
theorem words_get (l : List Bool) (k : Nat) (hk : k < nwords l.length) : (words l).getD k 0 = word l k := by simp [words, List.getD_eq_getElem?_getD, hk]
theorem words_set (l : List Bool) (i : Nat) (b : Bool) (hi : i < l.length) : (words l).set (i / 64) (word (l.set i b) (i / 64)) = words (l.set i b) := by
  apply List.ext_getElem?
  intro k
  rw [List.getElem?_set, words_len]
  have hn : nwords (l.set i b).length = nwords l.length := by simp
  unfold words
  rw [hn]
  by_cases hk : k < nwords l.length
  · by_cases h : i / 64 = k
    · subst h; simp [hk]
    · simp [h, hk, other_word l i k b hi (Ne.symm h)]
  · have : ¬ i / 64 = k := by unfold nwords at hk; omega
    simp [this, hk]
theorem words_zero (n : Nat) : words (List.replicate n false) = List.replicate (nwords n) 0 := by
  have h0 : ∀ k, word (List.replicate n false) k = 0 := fun k => by
    refine R_ext (R_word _ _) R_zero fun j hj => ?_
    rw [word_bit _ _ _ hj]
    simp [List.getD_eq_getElem?_getD, List.getElem?_replicate, B_zero]
    split <;> rfl
  unfold words
  rw [List.length_replicate]
  apply List.ext_getElem?
  intro k
  by_cases hk : k < nwords n
  · simp [hk, h0]
  · simp [hk]
end Go.Proofs.Ytloflnachpjlgaa.Bit
