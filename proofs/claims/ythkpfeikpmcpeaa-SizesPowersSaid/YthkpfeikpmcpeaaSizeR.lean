/- The contracts of the document's sizes, and of Align and Narrow; the greatest power that a number is a multiple of. -/
import Derived.Test.YthkpfeikpmcpeaaSizeO
set_option linter.unusedVariables false
namespace Go.Proofs.Ythkpfeikpmcpeaa.Sizes
open Go.RowKit Go.Proofs.Ythkpfeikpmcpeaa.Aid
/-- An odd number times a power of two. -/
theorem land_grain (k q : Nat) (h : 2 ^ k * (2 * q + 1) < 9223372036854775808) : Go.bits .and .i64 ((2 ^ k * (2 * q + 1) : Nat) : Int) (-((2 ^ k * (2 * q + 1) : Nat) : Int)) = ((2 ^ k : Nat) : Int) := by
  have hp := Nat.two_pow_pos k
  have hk : k < 63 := by
    apply Classical.byContradiction
    intro hc
    have h1 : 2 ^ 63 ≤ 2 ^ k := Nat.pow_le_pow_right (by decide) (by omega)
    have h2 : 2 ^ k * 1 ≤ 2 ^ k * (2 * q + 1) := Nat.mul_le_mul_left _ (by omega)
    omega
  have h63 : 2 ^ k ≤ 2 ^ 62 := Nat.pow_le_pow_right (by decide) (by omega)
  have e1 : 2 ^ k * (2 * q + 1) - 1 = 2 ^ k * (2 * q) + (2 ^ k - 1) := by rw [Nat.mul_add]; omega
  refine S_inj (S_bits _ _ _) (by unfold S; omega) ?_
  rw [Bs_and]
  have e2 : B (-((2 ^ k * (2 * q + 1) : Nat) : Int)) = ~~~ (BitVec.ofNat 64 (2 ^ k * (2 * q + 1) - 1)) := by
    unfold B
    rw [BitVec.ofInt_neg, BitVec.ofInt_natCast]
    have hm : 0 < 2 ^ k * (2 * q + 1) := Nat.mul_pos hp (by omega)
    clear e1
    generalize 2 ^ k * (2 * q + 1) = m at h hm ⊢
    apply BitVec.eq_of_toNat_eq
    rw [BitVec.toNat_neg, BitVec.toNat_not, BitVec.toNat_ofNat, BitVec.toNat_ofNat]
    omega
  rw [e2, B_nat, B_nat, e1]
  apply BitVec.eq_of_getLsbD_eq
  intro j hj
  rw [BitVec.getLsbD_and, BitVec.getLsbD_not, BitVec.getLsbD_ofNat, BitVec.getLsbD_ofNat, BitVec.getLsbD_ofNat, Nat.testBit_two_pow_mul, Nat.testBit_two_pow_mul_add _ (by omega), Nat.testBit_two_pow]
  by_cases h1 : j < k
  · have a1 : decide (j ≥ k) = false := decide_eq_false (by omega)
    have a2 : decide (k = j) = false := decide_eq_false (by omega)
    rw [a1, a2]; simp
  · rw [if_neg h1]
    by_cases h2 : k = j
    · subst h2
      simp [hj]
    · have a1 : decide (j ≥ k) = true := decide_eq_true (by omega)
      have a2 : decide (k = j) = false := decide_eq_false (by omega)
      obtain ⟨i, hi⟩ : ∃ i, j - k = i + 1 := ⟨j - k - 1, by omega⟩
      rw [a1, a2, hi, Nat.testBit_succ, Nat.testBit_succ, show (2 * q + 1) / 2 = q by omega, show 2 * q / 2 = q by omega]
      simp [hj]
theorem oddpart : ∀ (f n : Nat), n < 2 ^ f → 1 ≤ n → ∃ k q, n = 2 ^ k * (2 * q + 1)
  | 0, n, h, h1 => by omega
  | f + 1, n, h, h1 => by
    by_cases he : n % 2 = 0
    · obtain ⟨k, q, hq⟩ := oddpart f (n / 2) (by rw [Nat.pow_succ] at h; omega) (by omega)
      exact ⟨k + 1, q, by rw [Nat.pow_succ, Nat.mul_right_comm, ← hq]; omega⟩
    · exact ⟨0, n / 2, by omega⟩
theorem grain_odd {n : Int} {k q : Nat} (hn : n < 9223372036854775808) (h : n = ((2 ^ k * (2 * q + 1) : Nat) : Int)) : grainV n = ((2 ^ k : Nat) : Int) := by
  have hp : 0 < 2 ^ k * (2 * q + 1) := Nat.mul_pos (Nat.two_pow_pos k) (by omega)
  unfold grainV
  rw [if_neg (by omega), h]
  exact land_grain k q (by omega)
theorem narrow_calls (n : Int) (w : World) : Calls Try.prog 34 #[.int .i64 n] w fun e w' => e = .returned (.tuple #[.int .u16 (if 0 ≤ n ∧ n ≤ 65535 then n else 0), .bool (decide (0 ≤ n ∧ n ≤ 65535))]) ∧ w = w' := by
  by_cases hn : 0 ≤ n ∧ n ≤ 65535
  · rw [if_pos hn, decide_eq_true hn]
    have h0 := hn.1
    have h1 := hn.2
    go_enter Try.func34, Try.ntmps34
    go_wp2
    go_ret2
    exact ⟨rfl, rfl⟩
  · rw [if_neg hn, decide_eq_false hn]
    by_cases h0 : 0 ≤ n
    all_goals
      go_enter Try.func34, Try.ntmps34
      go_wp2
      go_ret2
      exact ⟨rfl, rfl⟩
def alignV (n : Int) : Int := if max n 1 ≤ 4096 ∧ isPow (max n 1) = true then max n 1 else 0
def alignE (n : Int) : Int := if max n 1 ≤ 4096 ∧ isPow (max n 1) = true then 0 else 11
theorem align_calls (n : Int) (h0 : 0 ≤ n) (h1 : n < 18446744073709551616) (w : World) : Calls Try.prog 28 #[.int .u64 n] w fun e w' => e = .returned (.tuple #[.int .i64 (alignV n), .int .i64 (alignE n)]) ∧ w = w' := by
  unfold alignV alignE
  have hm0 : 1 ≤ max n 1 := by omega
  have hm1 : max n 1 < 18446744073709551616 := by omega
  by_cases h : max n 1 ≤ 4096
  · obtain ⟨a, ha⟩ := Int.eq_ofNat_of_zero_le (show 0 ≤ max n 1 by omega)
    have hp := ones_pow a (by omega) (by omega)
    rw [← ha] at hp
    cases hx : isPow (max n 1)
    · rw [hx] at hp
      have hne : (onesV (max n 1) != 1) = true := by rw [bne, hp]; rfl
      rw [if_neg (by simp), if_neg (by simp)]
      clear hp hx ha
      go_enter Try.func28, Try.ntmps28
      go_wp2_with (first | (go_at_call 53; refine (ones_calls _ _).mono ?_; rintro e w' ⟨rfl, rfl⟩))
      go_ret2
      exact ⟨rfl, rfl⟩
    · rw [hx] at hp
      have hne : (onesV (max n 1) != 1) = false := by rw [bne, hp]; rfl
      rw [if_pos (by simp [h]), if_pos (by simp [h])]
      clear hp hx ha
      go_enter Try.func28, Try.ntmps28
      go_wp2_with (first | (go_at_call 53; refine (ones_calls _ _).mono ?_; rintro e w' ⟨rfl, rfl⟩))
      go_ret2
      exact ⟨rfl, rfl⟩
  · rw [if_neg (by simp [h]), if_neg (by simp [h])]
    go_enter Try.func28, Try.ntmps28
    go_wp2
    go_ret2
    exact ⟨rfl, rfl⟩
theorem rtimes_calls (a b : Nat) (ha : a < 18446744073709551616) (hb : b < 18446744073709551616) (w : World) :
    Calls Try.prog 27 #[.int .u64 a, .int .u64 b] w fun e w' => e = .returned (.tuple #[.int .i64 (lim ((a * b : Nat) : Int)), .bool (decide (((a * b : Nat) : Int) ≤ 1099511627776))]) ∧ w = w' := by
  by_cases h : a = 0 ∨ b = 0
  · have e0 : a * b = 0 := by rcases h with rfl | rfl <;> simp
    rw [e0]
    rcases h with rfl | rfl
    · go_enter Try.func27, Try.ntmps27
      go_wp2
      go_ret2
      exact ⟨rfl, rfl⟩
    · by_cases hz : a = 0
      · subst hz
        go_enter Try.func27, Try.ntmps27
        go_wp2
        go_ret2
        exact ⟨rfl, rfl⟩
      · have hz' : ((a : Int) == 0) = false := by rw [beq_eq_false_iff_ne]; omega
        go_enter Try.func27, Try.ntmps27
        go_wp2
        go_ret2
        exact ⟨rfl, rfl⟩
  · have ha0 : 1 ≤ a := by omega
    have hb0 : 1 ≤ b := by omega
    have za : ((a : Int) == 0) = false := by rw [beq_eq_false_iff_ne]; omega
    have zb : ((b : Int) == 0) = false := by rw [beq_eq_false_iff_ne]; omega
    have zb' : (b : Int) ≠ 0 := by omega
    clear h
    by_cases hab : a * b ≤ 1099511627776
    · have h1 : a ≤ 1099511627776 / b := (Nat.le_div_iff_mul_le (by omega)).2 hab
      have h1' : (a : Int) ≤ 1099511627776 / (b : Int) := by have : ((1099511627776 / b : Nat) : Int) = 1099511627776 / (b : Int) := Int.natCast_ediv _ _; omega
      have h2 : a ≤ a * b := Nat.le_mul_of_pos_right _ (by omega)
      have h3 : b ≤ a * b := Nat.le_mul_of_pos_left _ (by omega)
      have h4 : (a : Int) * (b : Int) = ((a * b : Nat) : Int) := (Int.natCast_mul a b).symm
      rw [show lim ((a * b : Nat) : Int) = ((a * b : Nat) : Int) from by unfold lim; rw [if_neg (by omega)], decide_eq_true (by omega)]
      have H4 := Lib.hid h4
      have h5 : 0 ≤ (a : Int) * (b : Int) := by omega
      have h6 : (a : Int) * (b : Int) ≤ 1099511627776 := by omega
      have h7 : (a : Int) ≤ 1099511627776 := by omega
      have h8 : (b : Int) ≤ 1099511627776 := by omega
      clear h4 h2 h3 h1
      go_enter Try.func27, Try.ntmps27
      go_wp2
      go_ret2
      exact ⟨rfl, rfl⟩
    · have h1' : 1099511627776 / (b : Int) < (a : Int) := by
        have : 1099511627776 / b < a := (Nat.div_lt_iff_lt_mul (by omega)).2 (by omega)
        have : ((1099511627776 / b : Nat) : Int) = 1099511627776 / (b : Int) := Int.natCast_ediv _ _
        omega
      rw [show lim ((a * b : Nat) : Int) = 0 from by unfold lim; rw [if_pos (by omega)], decide_eq_false (by omega)]
      by_cases h7 : (a : Int) ≤ 1099511627776
      · by_cases h8 : (b : Int) ≤ 1099511627776
        · go_enter Try.func27, Try.ntmps27
          go_wp2
          go_ret2
          exact ⟨rfl, rfl⟩
        · go_enter Try.func27, Try.ntmps27
          go_wp2
          go_ret2
          exact ⟨rfl, rfl⟩
      · go_enter Try.func27, Try.ntmps27
        go_wp2
        go_ret2
        exact ⟨rfl, rfl⟩
theorem rpower_calls (n : Int) (w : World) : Calls Try.prog 29 #[.int .i64 n] w fun e w' => e = .returned (.bool (isPow n)) ∧ w = w' := by
  go_enter Try.func29, Try.ntmps29
  go_wp2
  go_loop [3] (fun i => ∃ (k : Nat), i = .int .i64 ((2 ^ k : Nat) : Int) ∧ k ≤ 41 ∧ ∀ j, j < k → n ≠ ((2 ^ j : Nat) : Int)) (fun i => 2199023255552 - (intOf i).toNat)
  case atStart => exact ⟨0, rfl, by omega, fun j hj => absurd hj (by omega)⟩
  case round =>
    obtain ⟨k, rfl, hk, hno⟩ := hrel
    have Hno := Lib.hid hno
    have hp : 2 ^ k ≤ 2 ^ 41 := Nat.pow_le_pow_right (by decide) hk
    have hp0 := Nat.two_pow_pos k
    have Hs := Lib.hid (Nat.pow_succ 2 k)
    have Hk := Lib.hid (show k ≤ 40 ↔ 2 ^ k ≤ 1099511627776 from ⟨fun h => Nat.pow_le_pow_right (n := 2) (by decide) h, fun h => by
      apply Classical.byContradiction
      intro hc
      have : k = 41 := by omega
      subst this
      exact absurd h (by decide)⟩)
    have Hi := Lib.hid (isPow_iff n)
    have Hpk := Lib.hid (rfl : 2 ^ k = 2 ^ k)
    clear hno
    revert Hpk
    generalize hP : 2 ^ k = P at hp hp0 Hs Hk ⊢
    intro Hpk
    have HP := Lib.hid hP
    clear hP Hpk
    by_cases hlt : P ≤ 1099511627776
    · by_cases he : (P : Int) = n
      · have ht : isPow n = true := Hi.out.2 ⟨k, Hk.out.2 hlt, by rw [HP.out]; exact he.symm⟩
        have Ht := Lib.hid ht
        clear ht
        go_wp2
        go_ret
        exact ⟨ret_bool Ht.out.symm, rfl⟩
      · have he' : ((P : Int) == n) = false := by rw [beq_eq_false_iff_ne]; exact he
        have He := Lib.hid he
        clear he
        go_wp2
        go_round
        case rel => exact ⟨k + 1, by rw [Hs.out]; go_num, by have := Hk.out.2 hlt; omega, fun j hj => by
          by_cases hjk : j < k
          · exact Hno.out j hjk
          · obtain rfl : j = k := by omega
            rw [HP.out]; exact fun h => He.out h.symm⟩
        case measure => simp [intOf]; omega
    · have hf : isPow n = false := by
        cases hx : isPow n
        · rfl
        · obtain ⟨j, hj, hjn⟩ := Hi.out.1 hx
          have hx : ¬ k ≤ 40 := fun h => hlt (Hk.out.1 h)
          exact absurd hjn (Hno.out j (by omega))
      have Hf := Lib.hid hf
      clear hf
      go_wp2
      go_ret
      exact ⟨ret_bool Hf.out.symm, rfl⟩
end Go.Proofs.Ythkpfeikpmcpeaa.Sizes
