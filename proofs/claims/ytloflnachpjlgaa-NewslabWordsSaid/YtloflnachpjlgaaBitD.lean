/- The contract of package bits' First. -/
import Derived.Test.YtloflnachpjlgaaBitC
import Derived.Deep.DeepCutAuto
namespace Go.Proofs.Ytloflnachpjlgaa.Bit
open Go.RowKit Go.Proofs.Ytloflnachpjlgaa.Aid
/-- The least bit from one on that is so. -/
def firstGo (l : List Bool) (s : Bool) : Nat → Nat → Int
  | 0, _ => -1
  | f + 1, i => if l.getD i false = s then (i : Int) else firstGo l s f (i + 1)
def first (l : List Bool) (i : Nat) (s : Bool) : Int := firstGo l s (l.length - i) i
def IsFirst (l : List Bool) (i : Nat) (s : Bool) (r : Int) : Prop :=
  (r = -1 ∧ ∀ j, i ≤ j → j < l.length → l.getD j false ≠ s) ∨ (∃ k : Nat, r = k ∧ i ≤ k ∧ k < l.length ∧ l.getD k false = s ∧ ∀ j, i ≤ j → j < k → l.getD j false ≠ s)
theorem firstGo_is (l : List Bool) (s : Bool) : ∀ f i, i + f = l.length ∨ (f = 0 ∧ l.length ≤ i) → IsFirst l i s (firstGo l s f i)
  | 0, i, h => .inl ⟨rfl, fun j h1 h2 => by omega⟩
  | f + 1, i, h => by
    unfold firstGo
    by_cases hs : l.getD i false = s
    · rw [if_pos hs]
      exact .inr ⟨i, rfl, Nat.le_refl _, by omega, hs, fun j h1 h2 => by omega⟩
    · rw [if_neg hs]
      rcases firstGo_is l s f (i + 1) (by omega) with ⟨h1, h2⟩ | ⟨k, h1, h2, h3, h4, h5⟩
      · refine .inl ⟨h1, fun j h3 h4 => ?_⟩
        by_cases hj : j = i
        · subst hj; exact hs
        · exact h2 j (by omega) h4
      · refine .inr ⟨k, h1, by omega, h3, h4, fun j h6 h7 => ?_⟩
        by_cases hj : j = i
        · subst hj; exact hs
        · exact h5 j (by omega) h7
theorem first_is (l : List Bool) (i : Nat) (s : Bool) : IsFirst l i s (first l i s) := firstGo_is l s _ _ (by omega)
theorem isFirst_eq {l : List Bool} {i : Nat} {s : Bool} {r r' : Int} (h : IsFirst l i s r) (h' : IsFirst l i s r') : r = r' := by
  rcases h with ⟨h1, h2⟩ | ⟨k, h1, h2, h3, h4, h5⟩ <;> rcases h' with ⟨g1, g2⟩ | ⟨k', g1, g2, g3, g4, g5⟩
  · omega
  · exact absurd g4 (h2 k' g2 g3)
  · exact absurd h4 (g2 k h2 h3)
  · rcases Nat.lt_trichotomy k k' with h | h | h
    · exact absurd h4 (g5 k h2 h)
    · omega
    · exact absurd g4 (h5 k' g2 h)
theorem first_eq {l : List Bool} {i : Nat} {s : Bool} {r : Int} (h : IsFirst l i s r) : r = first l i s := isFirst_eq h (first_is l i s)
theorem ret_i {a b : Int} (h : a = b) : Value.int .i64 a = .int .i64 b := by rw [h]
theorem ctz_bit (x : Nat) (h0 : x ≠ 0) (h : x < 18446744073709551616) : Lib.ctz 64 x < 64 ∧ x.testBit (Lib.ctz 64 x) = true ∧ ∀ j, j < Lib.ctz 64 x → x.testBit j = false := by
  obtain ⟨m, hm, hlt⟩ := Lib.ctzFrom_spec 64 x (by omega) h
  have e : Lib.ctz 64 x = Lib.ctzFrom 64 x := by unfold Lib.ctz; rw [if_neg h0]
  rw [e]
  generalize Lib.ctzFrom 64 x = c at hm hlt
  subst hm
  refine ⟨hlt, ?_, fun j hj => ?_⟩
  · rw [Nat.testBit_two_pow_mul]; simp
  · rw [Nat.testBit_two_pow_mul]; simp; omega
/-- The word in which the least bit is looked for. -/
structure Sel (l : List Bool) (i : Nat) (s : Bool) (k W : Nat) : Prop where
  lt : W < 18446744073709551616
  bit : ∀ j, j < 64 → W.testBit j = ((l.getD (64 * k + j) false == s) && decide (i ≤ 64 * k + j))
theorem Sel.found {l : List Bool} {i : Nat} {s : Bool} {k W : Nat} (h : Sel l i s k W) (ha : ∀ j, i ≤ j → j < 64 * k → j < l.length → l.getD j false ≠ s) (h0 : W ≠ 0) (hq : 64 * k + Lib.ctz 64 W < l.length) : IsFirst l i s ((64 * k + Lib.ctz 64 W : Nat) : Int) := by
  obtain ⟨h1, h2, h3⟩ := ctz_bit W h0 h.lt
  generalize Lib.ctz 64 W = c at *
  have hb := h.bit c h1
  rw [h2] at hb
  have hb := hb.symm
  rw [Bool.and_eq_true, decide_eq_true_eq, beq_iff_eq] at hb
  refine .inr ⟨64 * k + c, rfl, hb.2, hq, hb.1, fun j hj1 hj2 => ?_⟩
  by_cases hj : j < 64 * k
  · exact ha j hj1 hj (by omega)
  · have hb' := h.bit (j - 64 * k) (by omega)
    rw [h3 _ (by omega), show 64 * k + (j - 64 * k) = j by omega] at hb'
    intro e
    rw [e] at hb'
    simp [hj1] at hb'
theorem Sel.next {l : List Bool} {i : Nat} {s : Bool} {k W : Nat} (h : Sel l i s k W) (ha : ∀ j, i ≤ j → j < 64 * k → j < l.length → l.getD j false ≠ s) (hq : W = 0 ∨ l.length ≤ 64 * k + Lib.ctz 64 W) : ∀ j, i ≤ j → j < 64 * (k + 1) → j < l.length → l.getD j false ≠ s := by
  intro j hj1 hj2 hj3
  by_cases hj : j < 64 * k
  · exact ha j hj1 hj hj3
  · have hb' := h.bit (j - 64 * k) (by omega)
    have hz : W.testBit (j - 64 * k) = false := by
      by_cases h0 : W = 0
      · subst h0; simp
      · have hq' := hq.resolve_left h0
        exact (ctz_bit W h0 h.lt).2.2 _ (by omega)
    rw [hz, show 64 * k + (j - 64 * k) = j by omega] at hb'
    intro e
    rw [e] at hb'
    simp [hj1] at hb'
theorem nat_of_R {x : Int} (h : R x) : ∃ W : Nat, x = (W : Int) ∧ W < 18446744073709551616 ∧ ∀ j, j < 64 → W.testBit j = (B x).getLsbD j := by
  unfold R at h
  obtain ⟨W, rfl⟩ := Int.eq_ofNat_of_zero_le h.1
  exact ⟨W, rfl, by omega, fun j hj => (B_testBit W j hj).symm⟩
theorem B_max : B IntKind.u64.max = BitVec.allOnes 64 := rfl
/-- The word turned over, if clear bits are looked for. -/
theorem xor_bit (l : List Bool) (k j : Nat) (hj : j < 64) : (B (Go.bits .xor .u64 IntKind.u64.max (Bit.word l k))).getLsbD j = (l.getD (64 * k + j) false == false) := by
  rw [B_xor, BitVec.getLsbD_xor, word_bit _ _ _ hj, B_max, BitVec.getLsbD_allOnes]
  cases l.getD (64 * k + j) false <;> simp [hj]
theorem mask_bits (i j : Nat) (hj : j < 64) : (B (IntKind.u64.wrap (18446744073709551615 * 2 ^ (i % 64)))).getLsbD j = decide (i % 64 ≤ j) := by
  have h := B_shl 18446744073709551615 (i % 64)
  rw [Nat.min_eq_left (by omega)] at h
  rw [h, BitVec.getLsbD_shiftLeft, show B 18446744073709551615 = BitVec.allOnes 64 from rfl, BitVec.getLsbD_allOnes]
  by_cases hi : i % 64 ≤ j
  · simp [hi, hj] <;> omega
  · simp [hi] <;> omega
theorem sel_all (l : List Bool) (i k : Nat) (s : Bool) (x : Int) (hR : R x) (hx : ∀ j, j < 64 → (B x).getLsbD j = (l.getD (64 * k + j) false == s)) (hk : i / 64 < k) : ∃ W : Nat, x = (W : Int) ∧ Sel l i s k W := by
  obtain ⟨W, e, hlt, hb⟩ := nat_of_R hR
  refine ⟨W, e, hlt, fun j hj => ?_⟩
  rw [hb j hj, hx j hj]
  have : decide (i ≤ 64 * k + j) = true := by simp; omega
  rw [this, Bool.and_true]
theorem sel_mask (l : List Bool) (i k : Nat) (s : Bool) (x : Int) (hx : ∀ j, j < 64 → (B x).getLsbD j = (l.getD (64 * k + j) false == s)) (hk : k = i / 64) : ∃ W : Nat, Go.bits .and .u64 x (IntKind.u64.wrap (18446744073709551615 * 2 ^ (i % 64))) = (W : Int) ∧ Sel l i s k W := by
  obtain ⟨W, e, hlt, hb⟩ := nat_of_R (R_bits .and x (IntKind.u64.wrap (18446744073709551615 * 2 ^ (i % 64))))
  refine ⟨W, e, hlt, fun j hj => ?_⟩
  rw [hb j hj, B_and, BitVec.getLsbD_and, hx j hj, mask_bits _ _ hj]
  have : decide (i % 64 ≤ j) = decide (i ≤ 64 * k + j) := by
    rw [Bool.eq_iff_iff, decide_eq_true_eq, decide_eq_true_eq]; omega
  rw [this]
end Go.Proofs.Ytloflnachpjlgaa.Bit
