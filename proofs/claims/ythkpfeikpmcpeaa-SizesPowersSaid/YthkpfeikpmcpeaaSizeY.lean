/- Layer 4: the law SizesPowers, walked. -/
import Derived.Test.YthkpfeikpmcpeaaSizeW
import Derived.Lib.ItoaNum
set_option linter.unusedVariables false
namespace Go.Proofs.Ythkpfeikpmcpeaa.Sizes
open Go.RowKit Go.Proofs.Ythkpfeikpmcpeaa.Aid
theorem logV_bounds (n : Int) (h : 1 ≤ n) (h' : n ≤ 1099511627776) : ∃ k : Nat, logV n = (k : Int) ∧ k ≤ 40 ∧ ((2 ^ k : Nat) : Int) ≤ n ∧ n < ((2 ^ (k + 1) : Nat) : Int) := by
  obtain ⟨h1, h2, h3⟩ := Lib.bitLenAux_bounds 64 n.toNat (by omega) (by omega)
  refine ⟨Lib.bitLen n.toNat - 1, ?_, ?_, ?_, ?_⟩
  · unfold logV
    rw [if_neg (by omega)]
    unfold Lib.bitLen at *
    omega
  · apply Classical.byContradiction
    intro hc
    have : 2 ^ 41 ≤ 2 ^ (Lib.bitLen n.toNat - 1) := Nat.pow_le_pow_right (by decide) (by omega)
    unfold Lib.bitLen at *
    omega
  · unfold Lib.bitLen; omega
  · unfold Lib.bitLen
    rw [Nat.sub_add_cancel h1]; omega
set_option maxRecDepth 100000 in
set_option maxHeartbeats 4000000 in
theorem powers_walk (n : Int) (hn : -9223372036854775808 ≤ n ∧ n < 9223372036854775808) (w : World) :
    Calls Try.prog 9 #[.int .i64 n] w fun e w' => e = .returned (.bool true) ∧ Below w.heap.size w w' := by
  have L := Lib.hid alive_calls
  have LO := Lib.hid (log_calls n hn.2)
  have G := Lib.hid (grain_calls n hn.2)
  have PW := Lib.hid (fun n W => power_calls n W)
  by_cases hr : 1 ≤ n ∧ n ≤ 1099511627776
  · obtain ⟨k, hk, hk4, hle, hlt⟩ := logV_bounds n hr.1 hr.2
    obtain ⟨j, q, hj⟩ := oddpart 63 n.toNat (by omega) (by omega)
    have hj' : n = ((2 ^ j : Nat) : Int) * (2 * (q : Int) + 1) := by
      rw [show n = ((n.toNat : Nat) : Int) by omega, hj, Int.natCast_mul]
      congr 1
    rw [hk] at LO
    rw [grain_odd hn.2 (by omega : n = ((2 ^ j * (2 * q + 1) : Nat) : Int))] at G
    have hj0 := Nat.two_pow_pos j
    have hj40 : j ≤ 40 := by
      apply Classical.byContradiction
      intro hc
      have h1 : 2 ^ 41 ≤ 2 ^ j := Nat.pow_le_pow_right (by decide) (by omega)
      have h2 : 2 ^ j * 1 ≤ 2 ^ j * (2 * q + 1) := Nat.mul_le_mul_left _ (by omega)
      omega
    have hpp : isPow ((2 ^ j : Nat) : Int) = true := (isPow_iff _).2 ⟨j, hj40, rfl⟩
    have hpn : isPow n = (((2 ^ j : Nat) : Int) == n) := by
      rw [Bool.eq_iff_iff, beq_iff_eq]
      constructor
      · intro h
        obtain ⟨i, hi, he⟩ := (isPow_iff n).1 h
        have g1 := grain_odd (q := 0) hn.2 (show n = ((2 ^ i * (2 * 0 + 1) : Nat) : Int) by omega)
        have g2 := grain_odd hn.2 (by omega : n = ((2 ^ j * (2 * q + 1) : Nat) : Int))
        rw [← g2, g1, he]
      · intro h
        rw [← h]; exact hpp
    have P1 := Lib.hid (power_calls n)
    rw [hpn] at P1
    have P2 := Lib.hid (power_calls ((2 ^ j : Nat) : Int))
    rw [hpp] at P2
    obtain ⟨P, hP⟩ : ∃ P : Int, P = ((2 ^ j : Nat) : Int) := ⟨_, rfl⟩
    rw [← hP] at P1 P2 G hj'
    have hP1 : 1 ≤ P := by omega
    have hm : n % P = 0 := by rw [hj', Int.mul_emod_right]
    have hd : n / P = 2 * (q : Int) + 1 := by rw [hj', Int.mul_ediv_cancel_left _ (by omega)]
    have hd1 : n / P % 2 = 1 := by omega
    have hPn : P ≤ n := by
      rw [hj']
      have := Int.mul_le_mul_of_nonneg_left (show 1 ≤ 2 * (q : Int) + 1 by omega) (show 0 ≤ P by omega)
      omega
    have hd0 : 0 ≤ n / P := by omega
    have hd2 : n / P ≤ n := Int.ediv_le_self _ (by omega)
    have hwr : ∀ T : Nat, T ≤ 2199023255552 → wrap64 (T : Int) = (T : Int) := fun T h => by unfold wrap64; omega
    have hw1 : wrap64 (2 ^ k) = ((2 ^ k : Nat) : Int) := by
      rw [show ((2 : Int) ^ k) = ((2 ^ k : Nat) : Int) by simp]
      exact hwr _ (Nat.le_trans (Nat.pow_le_pow_right (by decide) (show k ≤ 41 by omega)) (by decide))
    have hw2 : wrap64 (2 ^ (k + 1)) = ((2 ^ (k + 1) : Nat) : Int) := by
      rw [show ((2 : Int) ^ (k + 1)) = ((2 ^ (k + 1) : Nat) : Int) by simp]
      exact hwr _ (Nat.le_trans (Nat.pow_le_pow_right (by decide) (show k + 1 ≤ 41 by omega)) (by decide))
    clear hwr
    have P3 := Lib.hid (power_calls (wrap64 (2 ^ k)))
    rw [hw1, (isPow_iff _).2 ⟨k, hk4, rfl⟩, ← hw1] at P3
    rw [← hw1] at hle
    rw [← hw2] at hlt
    clear hw1 hw2 hpn hpp hj hj' hP hd hj40 hj0 hk
    obtain ⟨K, hK⟩ : ∃ K : Int, K = k := ⟨_, rfl⟩
    rw [← hK] at LO
    rw [show k = K.toNat by omega] at P3 hle
    rw [show k + 1 = (K + 1).toNat by omega] at hlt
    have hK0 : 0 ≤ K := by omega
    have hK1 : K ≤ 40 := by omega
    have hr1 := hr.1
    have hr2 := hr.2
    have hmm : (n % P != 0) = false := by rw [hm]; rfl
    have hdd : (n / P % 2 != 1) = false := by rw [hd1]; rfl
    clear hK hk4 hr
    generalize hx : wrap64 (2 ^ K.toNat) = X at P3 hle
    have HX := Lib.hid hx
    generalize hy : wrap64 (2 ^ (K + 1).toNat) = Y at hlt
    have hx1 : wrap64 (2 ^ K.toNat) ≤ n := by rw [hx]; exact hle
    have hy1 : n < wrap64 (2 ^ (K + 1).toNat) := by rw [hy]; exact hlt
    rw [← hx] at P3
    clear hx hy hle hlt
    go_enter Try.func9, Try.ntmps9
    go_wp2_with (first
        | (go_at_call 24; refine (L.out _).mono ?_; rintro e w1 ⟨rfl, rfl⟩)
        | (go_at_call 36; refine (LO.out _).mono ?_; rintro e w1 ⟨rfl, rfl⟩)
        | (go_at_call 38; refine (G.out _).mono ?_; rintro e w1 ⟨rfl, rfl⟩)
        | (go_at_call 35; with_reducible refine (P1.out _).mono ?_; rintro e w1 ⟨rfl, rfl⟩)
        | (go_at_call 35; with_reducible refine (P2.out _).mono ?_; rintro e w1 ⟨rfl, rfl⟩)
        | (go_at_call 35; with_reducible refine (P3.out _).mono ?_; rintro e w1 ⟨rfl, rfl⟩))
    go_ret
    exact ⟨ret_bool (by first | rfl | assumption | (simp; done) | (simp [*]; done)), Below.refl _ _⟩
  · have PN := Lib.hid (power_calls n)
    rw [isPow_no hr] at PN
    by_cases h1 : n < 1
    · rw [show logV n = -1 from by unfold logV; rw [if_pos h1]] at LO
      go_enter Try.func9, Try.ntmps9
      go_wp2_with (first
        | (go_at_call 24; refine (L.out _).mono ?_; rintro e w1 ⟨rfl, rfl⟩)
        | (go_at_call 35; refine (PN.out _).mono ?_; rintro e w1 ⟨rfl, rfl⟩)
        | (go_at_call 36; refine (LO.out _).mono ?_; rintro e w1 ⟨rfl, rfl⟩))
      go_ret
      exact ⟨ret_bool (by first | rfl | assumption | (simp; done) | (simp [*]; done)), Below.refl _ _⟩
    · have hl : (logV n == -1) = false := by
        unfold logV
        rw [if_neg h1, beq_eq_false_iff_ne]
        have := bitLen_pos n.toNat (by omega) (by omega)
        omega
      generalize logV n = l at LO hl
      go_enter Try.func9, Try.ntmps9
      go_wp2_with (first
        | (go_at_call 24; refine (L.out _).mono ?_; rintro e w1 ⟨rfl, rfl⟩)
        | (go_at_call 35; refine (PN.out _).mono ?_; rintro e w1 ⟨rfl, rfl⟩)
        | (go_at_call 36; refine (LO.out _).mono ?_; rintro e w1 ⟨rfl, rfl⟩))
      go_ret
      exact ⟨ret_bool (by first | rfl | assumption | (simp; done) | (simp [*]; done)), Below.refl _ _⟩
end Go.Proofs.Ythkpfeikpmcpeaa.Sizes
