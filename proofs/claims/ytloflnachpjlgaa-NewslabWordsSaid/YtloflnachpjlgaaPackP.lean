/- Plain laws of layer 1: what the program computes on words is what the reference gathers bit by bit. No walk stands here. -/
import Derived.Test.YtloflnachpjlgaaAidBits
import Derived.Test.YtloflnachpjlgaaPackA
import Derived.Test.YtloflnachpjlgaaPackR
namespace Go.Proofs.Ytloflnachpjlgaa.Pack
open Go.RowKit Go.Proofs.Ytloflnachpjlgaa.Aid
theorem shr_B (x : Int) (hx : R x) (n : Nat) (hn : n ≤ 64) : B (x / 2 ^ n) = B x >>> n := by
  have := B_shr x hx n
  rwa [Nat.min_eq_left hn] at this
theorem shl_B (x : Int) (n : Nat) (hn : n ≤ 64) : B (IntKind.u64.wrap (x * 2 ^ n)) = B x <<< n := by
  have := B_shl x n
  rwa [Nat.min_eq_left hn] at this
theorem R_all : R 18446744073709551615 := by unfold R; omega
theorem B_all : B 18446744073709551615 = BitVec.allOnes 64 := rfl
theorem R_mask (n : Int) : R (maskV n) := R_shr _ R_all _
theorem mask_bit (n : Int) (h1 : 1 ≤ n) (h2 : n ≤ 64) (j : Nat) (hj : j < 64) : (B (maskV n)).getLsbD j = decide ((j : Int) < n) := by
  unfold maskV
  rw [shr_B _ R_all _ (by omega), B_all, BitVec.getLsbD_ushiftRight, BitVec.getLsbD_allOnes]
  apply decide_eq_decide.2; omega
theorem B_one : B 1 = 1#64 := rfl
theorem bitV_bit (x : Int) (hx : R x) (m : Int) (h1 : m ≤ 63) (j : Nat) : (B (bitV x m)).getLsbD j = (decide (j = 0) && (B x).getLsbD m.toNat) := by
  unfold bitV
  rw [B_and, BitVec.getLsbD_and, shr_B x hx _ (by omega), BitVec.getLsbD_ushiftRight, B_one, BitVec.getLsbD_one]
  by_cases h : j = 0
  · subst h; simp
  · simp [h]
theorem R_bitV (x m : Int) : R (bitV x m) := R_bits _ _ _
theorem bitV_one (x : Int) (hx : R x) (m : Int) (h1 : m ≤ 63) : (bitV x m == 1) = (B x).getLsbD m.toNat := by
  have hb := bitV_bit x hx m h1
  cases h : (B x).getLsbD m.toNat
  · have : bitV x m = 0 := (word_zero (R_bitV x m)).2 fun j _ => by rw [hb, h]; simp
    rw [this]; rfl
  · have : bitV x m = 1 := by
      apply R_ext (R_bitV x m) (by unfold R; omega)
      intro j hj
      rw [hb, h, B_one, BitVec.getLsbD_one]
      simp
    rw [this]; rfl
/-- One bit more is gathered. -/
theorem or_bit (o x : Int) (hx : R x) (m : Int) (h1 : m ≤ 63) (i : Nat) (hi : i < 64) (j : Nat) (hj : j < 64) :
    (B (Go.bits .or .u64 o (IntKind.u64.wrap (bitV x m * 2 ^ i)))).getLsbD j = ((B o).getLsbD j || (decide (j = i) && (B x).getLsbD m.toNat)) := by
  rw [B_or, BitVec.getLsbD_or, shl_B _ _ (by omega), BitVec.getLsbD_shiftLeft, bitV_bit x hx m h1]
  congr 1
  by_cases h : j = i
  · subst h; simp [hj]
  · by_cases h' : j < i
    · simp [h', hj]; omega
    · simp [h, hj]; omega
theorem rights (s n : Int) : rightB s n = rrightB s n := by
  unfold rightB rrightB wideB
  rw [← Bool.decide_and]
  apply decide_eq_decide.2; omega
theorem getGo_bit (x s : Int) (hx : R x) (hs : 0 ≤ s) : ∀ (d : Nat) (i : Int) (o : Int), 0 ≤ i → s + i + d ≤ 64 → ∀ j, j < 64 →
    (B (getGo x s d i o)).getLsbD j = ((B o).getLsbD j || (decide (i ≤ j ∧ (j : Int) < i + d) && (B x).getLsbD (s.toNat + j)))
  | 0, i, _, h0, h1, j, hj => by
    have : decide (i ≤ (j : Int) ∧ (j : Int) < i + (0 : Nat)) = false := decide_eq_false (by omega)
    simp only [getGo, this, Bool.false_and, Bool.or_false]
  | d + 1, i, o, h0, h1, j, hj => by
    rw [getGo, getGo_bit x s hx hs d (i + 1) _ (by omega) (by omega) j hj, or_bit o x hx _ (by omega) _ (by omega) j hj]
    by_cases h : j = i.toNat
    · have e1 : decide (i + 1 ≤ (j : Int) ∧ (j : Int) < i + 1 + d) = false := decide_eq_false (by omega)
      have e2 : decide (i ≤ (j : Int) ∧ (j : Int) < i + ((d + 1 : Nat) : Int)) = true := decide_eq_true (by omega)
      have e3 : (s + i).toNat = s.toNat + j := by omega
      rw [e1, e2, e3]; simp [h]
    · have e : decide (i + 1 ≤ (j : Int) ∧ (j : Int) < i + 1 + d) = decide (i ≤ (j : Int) ∧ (j : Int) < i + ((d + 1 : Nat) : Int)) := by apply decide_eq_decide.2; omega
      rw [e]; simp [h]
theorem getGo_R (x s : Int) : ∀ (d : Nat) (i o : Int), R o → R (getGo x s d i o)
  | 0, _, _, h => h
  | d + 1, i, _, _ => getGo_R x s d (i + 1) _ (R_bits _ _ _)
theorem gets (x s n : Int) (hx : R x) (h : rightB s n = true) : Go.bits .and .u64 (x / 2 ^ s.toNat) (maskV n) = getGo x s n.toNat 0 0 := by
  obtain ⟨h1, h2, h3, h4, h5⟩ := rightB_true h
  apply R_ext (R_bits _ _ _) (getGo_R _ _ _ _ _ R_zero)
  intro j hj
  rw [getGo_bit x s hx h3 _ 0 0 (by omega) (by omega) j hj, B_and, BitVec.getLsbD_and, mask_bit n h1 h2 j hj, shr_B x hx _ (by omega), BitVec.getLsbD_ushiftRight, B_zero]
  have e : decide ((0 : Int) ≤ (j : Int) ∧ (j : Int) < 0 + (n.toNat : Int)) = decide ((j : Int) < n) := by apply decide_eq_decide.2; omega
  rw [e]
  simp [Bool.and_comm]
theorem aboveGo_iff (x : Int) (hx : R x) : ∀ (d : Nat) (i : Int), 0 ≤ i → i + d ≤ 64 → (aboveGo x d i = true ↔ ∃ j : Nat, i ≤ j ∧ (j : Int) < i + d ∧ (B x).getLsbD j = true)
  | 0, i, _, _ => by
    simp only [aboveGo]
    constructor
    · intro h; cases h
    · rintro ⟨j, h1, h2, _⟩; omega
  | d + 1, i, h0, h1 => by
    rw [aboveGo, bitV_one x hx i (by omega), Bool.or_eq_true, aboveGo_iff x hx d (i + 1) (by omega) (by omega)]
    constructor
    · rintro (h | ⟨j, h2, h3, h4⟩)
      · exact ⟨i.toNat, by omega, by omega, h⟩
      · exact ⟨j, by omega, by omega, h4⟩
    · rintro ⟨j, h2, h3, h4⟩
      by_cases h : (j : Int) = i
      · left
        rw [show i.toNat = j by omega]; exact h4
      · exact .inr ⟨j, by omega, by omega, h4⟩
theorem aboves (v n : Int) (hv : R v) (h1 : 1 ≤ n) (h2 : n ≤ 64) : (Go.bits .andNot .u64 v (maskV n) != 0) = aboveGo v (64 - n).toNat n := by
  rw [Bool.eq_iff_iff, aboveGo_iff v hv _ _ (by omega) (by omega), bne_iff_ne, Ne, word_zero (R_bits _ _ _)]
  constructor
  · intro h
    have h' : ∃ i, i < 64 ∧ (B (Go.bits .andNot .u64 v (maskV n))).getLsbD i = true := by
      apply Classical.byContradiction
      intro hc
      apply h
      intro i hi
      cases hh : (B (Go.bits .andNot .u64 v (maskV n))).getLsbD i
      · rfl
      · exact absurd ⟨i, hi, hh⟩ hc
    obtain ⟨i, hi, hb⟩ := h'
    rw [B_andNot, BitVec.getLsbD_and, BitVec.getLsbD_not, mask_bit n h1 h2 i hi] at hb
    simp [hi] at hb
    exact ⟨i, by omega, by omega, hb.1⟩
  · rintro ⟨j, h3, h4, h5⟩ h
    have := h j (by omega)
    rw [B_andNot, BitVec.getLsbD_and, BitVec.getLsbD_not, mask_bit n h1 h2 j (by omega), h5] at this
    simp at this
    omega
theorem putGo_bit (x s n v : Int) (hx : R x) (hv : R v) (hs : 0 ≤ s) (hs' : s ≤ 63) : ∀ (d : Nat) (i : Int) (o : Int), 0 ≤ i → i + d ≤ 64 → ∀ j, j < 64 →
    (B (putGo x s n v d i o)).getLsbD j = ((B o).getLsbD j || (decide (i ≤ j ∧ (j : Int) < i + d) && (if s ≤ j ∧ (j : Int) < s + n then (B v).getLsbD (j - s.toNat) else (B x).getLsbD j)))
  | 0, i, _, h0, h1, j, hj => by
    have : decide (i ≤ (j : Int) ∧ (j : Int) < i + (0 : Nat)) = false := decide_eq_false (by omega)
    simp only [putGo, this, Bool.false_and, Bool.or_false]
  | d + 1, i, o, h0, h1, j, hj => by
    by_cases hc : s ≤ i ∧ i < s + n
    · rw [putGo_in hc, putGo_bit x s n v hx hv hs hs' d (i + 1) _ (by omega) (by omega) j hj, or_bit o v hv _ (by omega) _ (by omega) j hj]
      by_cases h : j = i.toNat
      · have e1 : decide (i + 1 ≤ (j : Int) ∧ (j : Int) < i + 1 + d) = false := decide_eq_false (by omega)
        have e2 : decide (i ≤ (j : Int) ∧ (j : Int) < i + ((d + 1 : Nat) : Int)) = true := decide_eq_true (by omega)
        have e3 : (i - s).toNat = j - s.toNat := by omega
        rw [e1, e2, e3, if_pos (by omega)]; simp [h]
      · have e : decide (i + 1 ≤ (j : Int) ∧ (j : Int) < i + 1 + d) = decide (i ≤ (j : Int) ∧ (j : Int) < i + ((d + 1 : Nat) : Int)) := by apply decide_eq_decide.2; omega
        rw [e]; simp [h]
    · rw [putGo_out hc, putGo_bit x s n v hx hv hs hs' d (i + 1) _ (by omega) (by omega) j hj, or_bit o x hx _ (by omega) _ (by omega) j hj]
      by_cases h : j = i.toNat
      · have e1 : decide (i + 1 ≤ (j : Int) ∧ (j : Int) < i + 1 + d) = false := decide_eq_false (by omega)
        have e2 : decide (i ≤ (j : Int) ∧ (j : Int) < i + ((d + 1 : Nat) : Int)) = true := decide_eq_true (by omega)
        rw [e1, e2, if_neg (by omega)]; simp [h]
      · have e : decide (i + 1 ≤ (j : Int) ∧ (j : Int) < i + 1 + d) = decide (i ≤ (j : Int) ∧ (j : Int) < i + ((d + 1 : Nat) : Int)) := by apply decide_eq_decide.2; omega
        rw [e]; simp [h]
theorem putGo_R (x s n v : Int) : ∀ (d : Nat) (i o : Int), R o → R (putGo x s n v d i o)
  | 0, _, _, h => h
  | d + 1, i, _, _ => putGo_R x s n v d (i + 1) _ (R_bits _ _ _)
/-- A number has no bit above a width. -/
theorem not_above {v n : Int} (_hv : R v) (h1 : 1 ≤ n) (h2 : n ≤ 64) (h : (Go.bits .andNot .u64 v (maskV n) != 0) = false) (j : Nat) (hj : n ≤ j) : (B v).getLsbD j = false := by
  by_cases h64 : j < 64
  · have hz : Go.bits .andNot .u64 v (maskV n) = 0 := by simpa using h
    have := (word_zero (R_bits _ _ _)).1 hz j h64
    rw [B_andNot, BitVec.getLsbD_and, BitVec.getLsbD_not, mask_bit n h1 h2 j h64] at this
    have e : decide ((j : Int) < n) = false := decide_eq_false (by omega)
    rw [e] at this
    simpa [h64] using this
  · exact BitVec.getLsbD_of_ge _ _ (by omega)
theorem putV_bit (x s n v : Int) (h : rightB s n = true) (hv : R v) (hva : (Go.bits .andNot .u64 v (maskV n) != 0) = false) (j : Nat) (hj : j < 64) :
    (B (putV x s n v)).getLsbD j = (if s ≤ j ∧ (j : Int) < s + n then (B v).getLsbD (j - s.toNat) else (B x).getLsbD j) := by
  obtain ⟨h1, h2, h3, h4, h5⟩ := rightB_true h
  unfold putV
  rw [B_or, BitVec.getLsbD_or, B_andNot, BitVec.getLsbD_and, BitVec.getLsbD_not, shl_B _ _ (by omega), shl_B _ _ (by omega), BitVec.getLsbD_shiftLeft, BitVec.getLsbD_shiftLeft]
  by_cases hs : (j : Int) < s
  · have e : decide (j < s.toNat) = true := decide_eq_true (by omega)
    rw [if_neg (by omega), e]; simp [hj]
  · have e : decide (j < s.toNat) = false := decide_eq_false (by omega)
    have e64 : decide (j < 64) = true := by simp [hj]
    rw [e, e64]
    by_cases hn : (j : Int) < s + n
    · rw [if_pos (by omega), mask_bit n h1 h2 _ (by omega)]
      have e2 : decide (((j - s.toNat : Nat) : Int) < n) = true := decide_eq_true (by omega)
      rw [e2]; simp
    · rw [if_neg (by omega), mask_bit n h1 h2 _ (by omega), not_above hv h1 h2 hva _ (by omega)]
      have e2 : decide (((j - s.toNat : Nat) : Int) < n) = false := decide_eq_false (by omega)
      rw [e2]; simp
theorem R_putV (x s n v : Int) : R (putV x s n v) := R_bits _ _ _
theorem puts (x s n v : Int) (hx : R x) (hv : R v) (h : rightB s n = true) (hva : (Go.bits .andNot .u64 v (maskV n) != 0) = false) : putV x s n v = putGo x s n v 64 0 0 := by
  obtain ⟨h1, h2, h3, h4, h5⟩ := rightB_true h
  apply R_ext (R_putV x s n v) (putGo_R _ _ _ _ _ _ _ R_zero)
  intro j hj
  rw [putV_bit x s n v h hv hva j hj, putGo_bit x s n v hx hv h3 (by omega) 64 0 0 (by omega) (by omega) j hj, B_zero]
  have e : decide ((0 : Int) ≤ (j : Int) ∧ (j : Int) < 0 + ((64 : Nat) : Int)) = true := decide_eq_true (by omega)
  rw [e]; simp
theorem cutGo_bit (v n : Int) (hv : R v) (hn : 1 ≤ n) (hn' : n ≤ 64) (sg : Bool) : ∀ (d : Nat) (i : Int) (o : Int), 0 ≤ i → i + d ≤ 64 → ∀ j, j < 64 →
    (B (cutGo v n sg d i o)).getLsbD j = ((B o).getLsbD j || (decide (i ≤ j ∧ (j : Int) < i + d) && (if (j : Int) < n then (B v).getLsbD j else sg && (B v).getLsbD (n.toNat - 1))))
  | 0, i, _, h0, h1, j, hj => by
    have : decide (i ≤ (j : Int) ∧ (j : Int) < i + (0 : Nat)) = false := decide_eq_false (by omega)
    simp only [cutGo, this, Bool.false_and, Bool.or_false]
  | d + 1, i, o, h0, h1, j, hj => by
    have step : ∀ x, (∀ j', j' < 64 → (B x).getLsbD j' = ((B o).getLsbD j' || (decide (j' = i.toNat) && (if i < n then (B v).getLsbD i.toNat else sg && (B v).getLsbD (n.toNat - 1))))) → cutGo v n sg (d + 1) i o = cutGo v n sg d (i + 1) x →
        (B (cutGo v n sg (d + 1) i o)).getLsbD j = ((B o).getLsbD j || (decide (i ≤ j ∧ (j : Int) < i + ((d + 1 : Nat) : Int)) && (if (j : Int) < n then (B v).getLsbD j else sg && (B v).getLsbD (n.toNat - 1)))) := by
      intro x hx he
      rw [he, cutGo_bit v n hv hn hn' sg d (i + 1) x (by omega) (by omega) j hj, hx j hj]
      by_cases h : j = i.toNat
      · have e1 : decide (i + 1 ≤ (j : Int) ∧ (j : Int) < i + 1 + d) = false := decide_eq_false (by omega)
        have e2 : decide (i ≤ (j : Int) ∧ (j : Int) < i + ((d + 1 : Nat) : Int)) = true := decide_eq_true (by omega)
        have e3 : (j : Int) = i := by omega
        rw [e1, e2, e3]; simp [h]
      · have e : decide (i + 1 ≤ (j : Int) ∧ (j : Int) < i + 1 + d) = decide (i ≤ (j : Int) ∧ (j : Int) < i + ((d + 1 : Nat) : Int)) := by apply decide_eq_decide.2; omega
        rw [e]; simp [h]
    by_cases hc : i < n
    · exact step _ (fun j' hj' => by rw [if_pos hc]; exact or_bit o v hv i (by omega) _ (by omega) j' hj') (cutGo_in hc)
    · cases sg
      · refine step _ (fun j' hj' => ?_) (cutGo_un hc)
        rw [if_neg hc, B_or, B_zero]; simp
      · refine step _ (fun j' hj' => ?_) (cutGo_sg hc)
        rw [if_neg hc, or_bit o v hv (n - 1) (by omega) _ (by omega) j' hj', show (n - 1).toNat = n.toNat - 1 by omega]
        simp
theorem cutGo_R (v n : Int) (sg : Bool) : ∀ (d : Nat) (i o : Int), R o → R (cutGo v n sg d i o)
  | 0, _, _, h => h
  | d + 1, i, _, _ => cutGo_R v n sg d (i + 1) _ (R_bits _ _ _)
theorem cut_bit (v n : Int) (hv : R v) (hn : 1 ≤ n) (hn' : n ≤ 64) (sg : Bool) (j : Nat) (hj : j < 64) :
    (B (cutGo v n sg 64 0 0)).getLsbD j = (if (j : Int) < n then (B v).getLsbD j else sg && (B v).getLsbD (n.toNat - 1)) := by
  rw [cutGo_bit v n hv hn hn' sg 64 0 0 (by omega) (by omega) j hj, B_zero]
  have e : decide ((0 : Int) ≤ (j : Int) ∧ (j : Int) < 0 + ((64 : Nat) : Int)) = true := decide_eq_true (by omega)
  rw [e]; simp
theorem sar_le {x : Int} (hx : S x) (n : Nat) : S (x / 2 ^ n) := by
  have hp : (0 : Int) < 2 ^ n := Int.pow_pos (by decide)
  have h1 : (1 : Int) ≤ 2 ^ n := hp
  unfold S at *
  constructor
  · rw [Int.le_ediv_iff_mul_le hp]
    have : (9223372036854775808 : Int) * 1 ≤ 9223372036854775808 * 2 ^ n := Int.mul_le_mul_of_nonneg_left h1 (by decide)
    omega
  · rw [Int.ediv_lt_iff_lt_mul hp]
    have : (9223372036854775808 : Int) * 1 ≤ 9223372036854775808 * 2 ^ n := Int.mul_le_mul_of_nonneg_left h1 (by decide)
    omega
theorem S_signed (v n : Int) : S (signedV v n) := sar_le (S_wrap64 _) _
theorem signed_bit (v n : Int) (hn : 1 ≤ n) (hn' : n ≤ 64) (j : Nat) (hj : j < 64) :
    (B (signedV v n)).getLsbD j = (if (j : Int) < n then (B v).getLsbD j else (B v).getLsbD (n.toNat - 1)) := by
  unfold signedV
  rw [B_sar _ (S_wrap64 _), B_wrap64, shl_B _ _ (by omega), BitVec.getLsbD_sshiftRight, BitVec.msb_eq_getLsbD_last, BitVec.getLsbD_shiftLeft, BitVec.getLsbD_shiftLeft]
  have e : decide (64 ≤ j) = false := decide_eq_false (by omega)
  rw [e]
  by_cases h : (j : Int) < n
  · rw [if_pos (by omega), if_pos h]
    have e1 : decide ((64 - n).toNat + j < 64) = true := decide_eq_true (by omega)
    have e2 : decide ((64 - n).toNat + j < (64 - n).toNat) = false := decide_eq_false (by omega)
    rw [e1, e2, show (64 - n).toNat + j - (64 - n).toNat = j by omega]; simp
  · rw [if_neg (by omega), if_neg h]
    have e2 : decide (64 - 1 < (64 - n).toNat) = false := decide_eq_false (by omega)
    rw [e2, show 64 - 1 - (64 - n).toNat = n.toNat - 1 by omega]; simp
theorem B_signed (v n : Int) (hv : R v) (hn : 1 ≤ n) (hn' : n ≤ 64) : B (signedV v n) = B (cutGo v n true 64 0 0) :=
  BitVec.eq_of_getLsbD_eq fun j hj => by rw [signed_bit v n hn hn' j hj, cut_bit v n hv hn hn' true j hj]; simp
theorem R_unsigned (v n : Int) : R (unsignedV v n) := R_bits _ _ _
theorem unsigned_bit (v n : Int) (hn : 1 ≤ n) (hn' : n ≤ 64) (j : Nat) (hj : j < 64) : (B (unsignedV v n)).getLsbD j = ((B v).getLsbD j && decide ((j : Int) < n)) := by
  unfold unsignedV
  rw [B_and, BitVec.getLsbD_and, B_wrap, mask_bit n hn hn' j hj]
theorem unsigneds (v n : Int) (hv : R v) (hn : 1 ≤ n) (hn' : n ≤ 64) : unsignedV (wrap64 v) n = cutGo v n false 64 0 0 := by
  apply R_ext (R_unsigned _ _) (cutGo_R _ _ _ _ _ _ R_zero)
  intro j hj
  rw [unsigned_bit _ n hn hn' j hj, cut_bit v n hv hn hn' false j hj, B_wrap64]
  by_cases h : (j : Int) < n <;> simp [h]
/-- Where a turned bit came from. -/
def came (n m : Int) (j : Nat) : Nat := (((j : Int) - m) % n).toNat
theorem came_lt {n m : Int} (hn : 1 ≤ n) (j : Nat) : ((came n m j : Nat) : Int) < n := by
  have h1 := Int.emod_nonneg ((j : Int) - m) (show n ≠ 0 by omega)
  have h2 := Int.emod_lt_of_pos ((j : Int) - m) (show (0 : Int) < n by omega)
  unfold came; omega
theorem came_hi {n m : Int} (h0 : 0 ≤ m) {j : Nat} (hj : (j : Int) < n) (h : m ≤ j) : came n m j = j - m.toNat := by
  unfold came
  rw [Int.emod_eq_of_lt (by omega) (by omega)]; omega
theorem came_lo {n m : Int} (hm : m < n) {j : Nat} (h : (j : Int) < m) : came n m j = (j + n - m).toNat := by
  unfold came
  have : ((j : Int) - m) % n = (j - m + n) % n := by rw [Int.add_emod_right]
  rw [this, Int.emod_eq_of_lt (by omega) (by omega)]
  omega
theorem turn_bit (x n m : Int) (hx : R x) (hn : 1 ≤ n) (hn' : n ≤ 64) (hva : (Go.bits .andNot .u64 x (maskV n) != 0) = false) (h0 : 0 ≤ m) (hm : m < n) (j : Nat) (hj : j < 64) :
    (B (turnV x n m)).getLsbD j = (decide ((j : Int) < n) && (B x).getLsbD (came n m j)) := by
  unfold turnV
  rw [B_and, BitVec.getLsbD_and, mask_bit n hn hn' j hj, B_or, BitVec.getLsbD_or, shl_B _ _ (by omega), shr_B x hx _ (by omega), BitVec.getLsbD_shiftLeft, BitVec.getLsbD_ushiftRight]
  by_cases h : (j : Int) < n
  · have e64 : decide (j < 64) = true := decide_eq_true hj
    have en : decide ((j : Int) < n) = true := decide_eq_true h
    rw [e64, en]
    by_cases h' : m ≤ j
    · have e : decide (j < m.toNat) = false := decide_eq_false (by omega)
      rw [e, came_hi h0 h h', not_above hx hn hn' hva ((n - m).toNat + j) (by omega)]; simp
    · have e : decide (j < m.toNat) = true := decide_eq_true (by omega)
      rw [e, came_lo hm (by omega), show (n - m).toNat + j = (j + n - m).toNat by omega]; simp
  · have en : decide ((j : Int) < n) = false := decide_eq_false h
    rw [en]; simp
theorem turn64_bit (x m : Int) (hx : R x) (h0 : 0 ≤ m) (hm : m < 64) (j : Nat) (hj : j < 64) : (B (turn64 x m)).getLsbD j = (B x).getLsbD (came 64 m j) := by
  unfold turn64
  rw [B_or, BitVec.getLsbD_or, shl_B _ _ (by omega), shr_B x hx _ (by omega), BitVec.getLsbD_shiftLeft, BitVec.getLsbD_ushiftRight]
  have e64 : decide (j < 64) = true := decide_eq_true hj
  rw [e64]
  by_cases h' : m ≤ j
  · have e : decide (j < m.toNat) = false := decide_eq_false (by omega)
    rw [e, came_hi h0 (by omega) h', BitVec.getLsbD_of_ge _ ((64 - m).toNat + j) (by omega)]; simp
  · have e : decide (j < m.toNat) = true := decide_eq_true (by omega)
    rw [e, came_lo hm (by omega), show (64 - m).toNat + j = (j + 64 - m).toNat by omega]; simp
/-- A number turned round within a width, 64 too. -/
def rotV (x n m : Int) : Int := if n = 64 then turn64 x m else turnV x n m
theorem R_rotV (x n m : Int) : R (rotV x n m) := by
  unfold rotV; split <;> exact R_bits _ _ _
theorem rot_bit (x n m : Int) (hx : R x) (hn : 1 ≤ n) (hn' : n ≤ 64) (hva : (Go.bits .andNot .u64 x (maskV n) != 0) = false) (h0 : 0 ≤ m) (hm : m < n) (j : Nat) (hj : j < 64) :
    (B (rotV x n m)).getLsbD j = (decide ((j : Int) < n) && (B x).getLsbD (came n m j)) := by
  unfold rotV
  by_cases h : n = 64
  · subst h
    rw [if_pos rfl, turn64_bit x m hx h0 hm j hj]
    have : decide ((j : Int) < 64) = true := decide_eq_true (by omega)
    rw [this]; simp
  · rw [if_neg h, turn_bit x n m hx hn hn' hva h0 hm j hj]
theorem tmod_emod (k n : Int) : (k.tmod n) % n = k % n := by
  have h := Int.mul_tdiv_add_tmod k n
  have : k % n = (k.tmod n + n * k.tdiv n) % n := by rw [Int.add_comm, h]
  rw [this, Int.add_mul_emod_self_left]
theorem tmod_lt (k n : Int) (hn : 1 ≤ n) : -n < k.tmod n ∧ k.tmod n < n := by
  have h1 := Int.tmod_lt_of_pos k (show 0 < n by omega)
  have h2 := Int.lt_tmod_of_pos k (show 0 < n by omega)
  omega
theorem and63 (t : Int) : Go.bits .and .u64 (IntKind.u64.wrap t) 63 = t % 64 := by
  have h0 := Int.emod_nonneg t (show (64 : Int) ≠ 0 by decide)
  have h1 := Int.emod_lt_of_pos t (show (0 : Int) < 64 by decide)
  have hq : (t % 18446744073709551616) % 64 = t % 64 := Int.emod_emod_of_dvd t (by decide)
  rw [u64_wrap]
  have h2 := Int.emod_nonneg t (show (18446744073709551616 : Int) ≠ 0 by decide)
  have h3 := Int.emod_lt_of_pos t (show (0 : Int) < 18446744073709551616 by decide)
  obtain ⟨a, ha⟩ := Int.eq_ofNat_of_zero_le h2
  rw [ha] at hq h3 ⊢
  rw [show (63 : Int) = ((63 : Nat) : Int) from rfl, u64_and_nat a 63 (by omega) (by omega), show (63 : Nat) = 2 ^ 6 - 1 from rfl, Nat.and_two_pow_sub_one_eq_mod]
  omega
theorem turnGo_bit (v n m : Int) (hv : R v) (hn : 1 ≤ n) (hn' : n ≤ 64) (h0 : 0 ≤ m) (hm : m < n) : ∀ (d : Nat) (i : Int) (o : Int), 0 ≤ i → i + d ≤ n → ∀ j, j < 64 →
    (B (turnGo v n m d i o)).getLsbD j = ((B o).getLsbD j || (decide ((j : Int) < n ∧ i ≤ came n m j ∧ (came n m j : Int) < i + d) && (B v).getLsbD (came n m j)))
  | 0, i, _, _, _, j, _ => by
    have : decide ((j : Int) < n ∧ i ≤ (came n m j : Int) ∧ (came n m j : Int) < i + (0 : Nat)) = false := decide_eq_false (by omega)
    simp only [turnGo, this, Bool.false_and, Bool.or_false]
  | d + 1, i, o, hi, hd, j, hj => by
    have q0 := Int.emod_nonneg (i + m) (show n ≠ 0 by omega)
    have q1 := Int.emod_lt_of_pos (i + m) (show (0 : Int) < n by omega)
    have key : ((j : Int) < n ∧ (came n m j : Int) = i) ↔ j = ((i + m) % n).toNat := by
      by_cases hw : i + m < n
      · rw [Int.emod_eq_of_lt (by omega) hw]
        constructor
        · rintro ⟨h1, h2⟩
          by_cases h' : m ≤ j
          · rw [came_hi h0 h1 h'] at h2; omega
          · rw [came_lo hm (by omega)] at h2; omega
        · intro h
          refine ⟨by omega, ?_⟩
          rw [came_hi h0 (by omega) (by omega)]; omega
      · have e : (i + m) % n = i + m - n := by
          have : (i + m) % n = (i + m - n) % n := by
            rw [show i + m = (i + m - n) + n by omega, Int.add_emod_right]
            congr 1
            omega
          rw [this, Int.emod_eq_of_lt (by omega) (by omega)]
        rw [e]
        constructor
        · rintro ⟨h1, h2⟩
          by_cases h' : m ≤ j
          · rw [came_hi h0 h1 h'] at h2; omega
          · rw [came_lo hm (by omega)] at h2; omega
        · intro h
          refine ⟨by omega, ?_⟩
          rw [came_lo hm (by omega)]; omega
    rw [turnGo, turnGo_bit v n m hv hn hn' h0 hm d (i + 1) _ (by omega) (by omega) j hj, or_bit o v hv _ (by omega) _ (by omega) j hj]
    by_cases h : j = ((i + m) % n).toNat
    · obtain ⟨h1, h2⟩ := key.2 h
      have e1 : decide ((j : Int) < n ∧ i + 1 ≤ (came n m j : Int) ∧ (came n m j : Int) < i + 1 + d) = false := decide_eq_false (by omega)
      have e2 : decide ((j : Int) < n ∧ i ≤ (came n m j : Int) ∧ (came n m j : Int) < i + ((d + 1 : Nat) : Int)) = true := decide_eq_true (by omega)
      have e3 : i.toNat = came n m j := by omega
      have e4 : decide (j = ((i + m) % n).toNat) = true := decide_eq_true h
      rw [e1, e2, e3, e4]; simp
    · have hne : ¬ ((j : Int) < n ∧ (came n m j : Int) = i) := fun hk => h (key.1 hk)
      have e : decide ((j : Int) < n ∧ i + 1 ≤ (came n m j : Int) ∧ (came n m j : Int) < i + 1 + d) = decide ((j : Int) < n ∧ i ≤ (came n m j : Int) ∧ (came n m j : Int) < i + ((d + 1 : Nat) : Int)) := by
        apply decide_eq_decide.2; omega
      have e4 : decide (j = ((i + m) % n).toNat) = false := decide_eq_false h
      rw [e, e4]; simp
theorem turnGo_R (v n m : Int) : ∀ (d : Nat) (i o : Int), R o → R (turnGo v n m d i o)
  | 0, _, _, h => h
  | d + 1, i, _, _ => turnGo_R v n m d (i + 1) _ (R_bits _ _ _)
theorem turns (v n m : Int) (hv : R v) (hn : 1 ≤ n) (hn' : n ≤ 64) (hva : (Go.bits .andNot .u64 v (maskV n) != 0) = false) (h0 : 0 ≤ m) (hm : m < n) : rotV v n m = turnGo v n m n.toNat 0 0 := by
  apply R_ext (R_rotV _ _ _) (turnGo_R _ _ _ _ _ _ R_zero)
  intro j hj
  rw [rot_bit v n m hv hn hn' hva h0 hm j hj, turnGo_bit v n m hv hn hn' h0 hm _ 0 0 (by omega) (by omega) j hj, B_zero]
  have hc := came_lt (m := m) hn j
  have e : decide ((j : Int) < n ∧ (0 : Int) ≤ (came n m j : Int) ∧ (came n m j : Int) < 0 + (n.toNat : Int)) = decide ((j : Int) < n) := by apply decide_eq_decide.2; omega
  rw [e]; simp
end Go.Proofs.Ytloflnachpjlgaa.Pack
