/- The contracts of the document's Up, Log and Grain. -/
import Derived.Test.YthkpfeikpmcpeaaSizeR
set_option linter.unusedVariables false
namespace Go.Proofs.Ythkpfeikpmcpeaa.Sizes
open Go.RowKit Go.Proofs.Ythkpfeikpmcpeaa.Aid
theorem upN_eq (n p : Int) (hn : 0 ≤ n) (hp : 1 ≤ p) : upN n p = if n / p * p < n then (n / p + 1) * p else n / p * p := by
  have e := Int.mul_ediv_add_emod n p
  have r0 := Int.emod_nonneg n (show p ≠ 0 by omega)
  have r1 := Int.emod_lt_of_pos n (show 0 < p by omega)
  have c := Int.mul_comm p (n / p)
  unfold upN
  by_cases h : n / p * p < n
  · rw [if_pos h]
    have : (n + p - 1) / p = n / p + 1 := by
      have h1 : n + p - 1 = (n % p - 1) + p * (n / p + 1) := by rw [Int.mul_add]; omega
      rw [h1, Int.add_mul_ediv_left _ _ (by omega), Int.ediv_eq_zero_of_lt (by omega) (by omega)]; omega
    rw [this]
  · rw [if_neg h]
    have : (n + p - 1) / p = n / p := by
      have h1 : n + p - 1 = (p - 1) + p * (n / p) := by omega
      rw [h1, Int.add_mul_ediv_left _ _ (by omega), Int.ediv_eq_zero_of_lt (by omega) (by omega)]; omega
    rw [this]
theorem rup_calls (n p : Int) (hp0 : -9223372036854775808 ≤ p) (hp1 : p < 9223372036854775808) (w : World) : Calls Try.prog 31 #[.int .i64 n, .int .i64 p] w fun e w' => e = .returned (.tuple #[.int .i64 (upV n p), .int .i64 (upE n p)]) ∧ w = w' := by
  by_cases hn : 0 ≤ n ∧ n ≤ 1099511627776
  · cases hp : isPow p
    · have e1 : upV n p = 0 := by unfold upV okN; rw [hp]; simp
      have e2 : upE n p = 11 := by unfold upE okN; rw [hp]; simp
      rw [e1, e2]
      clear e1 e2
      have h0 := hn.1
      have h1 := hn.2
      go_enter Try.func31, Try.ntmps31
      go_wp2_with (first | (go_at_call 29; refine (rpower_calls _ _).mono ?_; rintro e w' ⟨rfl, rfl⟩))
      go_ret2
      exact ⟨rfl, rfl⟩
    · have hok : okN n p = true := by unfold okN; rw [hp, decide_eq_true hn]; rfl
      have hb := isPow_bounds hp
      have h0 := hn.1
      have h1 := hn.2
      have hu := upN_eq n p hn.1 hb.1
      have hq0 : 0 ≤ n / p := Int.ediv_nonneg h0 (by omega)
      have hq1 : n / p ≤ n := Int.ediv_le_self _ h0
      have hqp : n / p * p ≤ n := Int.ediv_mul_le n (by omega)
      have hqp0 : 0 ≤ n / p * p := Int.mul_nonneg hq0 (by omega)
      have hadd : (n / p + 1) * p = n / p * p + p := by rw [Int.add_mul]; omega
      have hpn : p ≠ 0 := by omega
      by_cases hlt : n / p * p < n
      · rw [if_pos hlt, hadd] at hu
        by_cases hbig : 1099511627776 < upN n p
        · have e1 : upV n p = 0 := by unfold upV; rw [if_pos hok, if_pos hbig]
          have e2 : upE n p = 14 := by unfold upE; rw [if_pos hok, if_pos hbig]
          rw [e1, e2]
          clear e1 e2 hok
          rw [hu] at hbig
          rw [← hadd] at hbig
          have hb2 : (n / p + 1) * p < 9223372036854775808 := by omega
          have Hu := Lib.hid hu
          clear hu hadd
          go_enter Try.func31, Try.ntmps31
          go_wp2_with (first | (go_at_call 29; refine (rpower_calls _ _).mono ?_; rintro e w' ⟨rfl, rfl⟩))
          go_ret2
          exact ⟨rfl, rfl⟩
        · have e1 : upV n p = upN n p := by unfold upV; rw [if_pos hok, if_neg hbig]
          have e2 : upE n p = 0 := by unfold upE; rw [if_pos hok, if_neg hbig]
          rw [e1, e2]
          clear e1 e2 hok
          rw [hu] at hbig ⊢
          rw [← hadd] at hbig ⊢
          have hb2 : 0 ≤ (n / p + 1) * p := by omega
          have Hu := Lib.hid hu
          clear hu hadd
          go_enter Try.func31, Try.ntmps31
          go_wp2_with (first | (go_at_call 29; refine (rpower_calls _ _).mono ?_; rintro e w' ⟨rfl, rfl⟩))
          go_ret2
          exact ⟨rfl, rfl⟩
      · rw [if_neg hlt] at hu
        have e1 : upV n p = n / p * p := by unfold upV; rw [if_pos hok, hu, if_neg (by omega)]
        have e2 : upE n p = 0 := by unfold upE; rw [if_pos hok, hu, if_neg (by omega)]
        rw [e1, e2]
        clear e1 e2 hok hu hadd
        go_enter Try.func31, Try.ntmps31
        go_wp2_with (first | (go_at_call 29; refine (rpower_calls _ _).mono ?_; rintro e w' ⟨rfl, rfl⟩))
        go_ret2
        exact ⟨rfl, rfl⟩
  · have e0 : decide (0 ≤ n ∧ n ≤ 1099511627776) = false := decide_eq_false hn
    have e1 : upV n p = 0 := by unfold upV okN; rw [e0]; simp
    have e2 : upE n p = 11 := by unfold upE okN; rw [e0]; simp
    rw [e1, e2]
    clear e1 e2 e0
    by_cases h0 : 0 ≤ n
    all_goals
      go_enter Try.func31, Try.ntmps31
      go_wp2
      go_ret2
      exact ⟨rfl, rfl⟩
theorem logV_half (m : Int) (h : 1 ≤ m) (h' : m < 9223372036854775808) : logV m = logV (m / 2) + 1 := by
  unfold logV
  rw [if_neg (by omega), Lib.bitLen_half m.toNat (by omega) (by omega)]
  by_cases h1 : m / 2 < 1
  · rw [if_pos h1, show m.toNat / 2 = 0 by omega]; rfl
  · rw [if_neg h1, show (m / 2).toNat = m.toNat / 2 by omega]; omega
theorem logV_le (m : Int) : -1 ≤ logV m := by
  unfold logV; split <;> omega
theorem logV_lt (m : Int) (h' : m < 9223372036854775808) : logV m ≤ 63 := by
  unfold logV
  have := bitLen_le m.toNat (by omega)
  split <;> omega
theorem rlog_calls (n : Int) (hn : n < 9223372036854775808) (w : World) : Calls Try.prog 37 #[.int .i64 n] w fun e w' => e = .returned (.int .i64 (logV n)) ∧ w = w' := by
  go_enter Try.func37, Try.ntmps37
  go_wp2
  go_loop [0, 3] (fun m i => ∃ (a k : Int), m = .int .i64 a ∧ i = .int .i64 k ∧ a < 9223372036854775808 ∧ -1 ≤ k ∧ k ≤ 64 ∧ logV n = k + 1 + logV a) (fun m _ => (intOf m).toNat)
  case atStart => exact ⟨n, -1, rfl, rfl, hn, by omega, by omega, by omega⟩
  case round =>
    obtain ⟨a, k, rfl, rfl, ha, hk, hk', hg⟩ := hrel
    have l1 := logV_le a
    have l2 := logV_lt n hn
    by_cases hlt : 0 < a
    · have l3 := logV_half a (by omega) ha
      have l4 := logV_le (a / 2)
      have Hg := Lib.hid (show logV n = k + 1 + 1 + logV (a / 2) ∧ k + 1 ≤ 64 from by omega)
      have l5 : k + 1 ≤ 64 := Hg.out.2
      clear hg l1 l2 l3 l4
      go_wp2
      go_round
      case rel => exact ⟨a / 2, k + 1, by go_num, by go_num, by omega, by omega, by omega, Hg.out.1⟩
      case measure => simp [intOf]; omega
    · have Hg := Lib.hid (show k = logV n from by
        have : logV a = -1 := by unfold logV; rw [if_pos (by omega)]
        omega)
      clear hg l1 l2
      go_wp2
      go_ret
      exact ⟨by rw [← Hg.out]; rfl, rfl⟩
theorem two_pow_lt {j : Nat} {m : Int} (h : ((2 ^ j : Nat) : Int) * m < 9223372036854775808) (hm : 2 ≤ m) : 2 ^ j < 4611686018427387904 := by
  have h1 : ((2 ^ j : Nat) : Int) * 2 ≤ ((2 ^ j : Nat) : Int) * m := Int.mul_le_mul_of_nonneg_left hm (Int.natCast_nonneg _)
  omega
theorem rgrain_calls (n : Int) (hn : n < 9223372036854775808) (w : World) : Calls Try.prog 39 #[.int .i64 n] w fun e w' => e = .returned (.int .i64 (grainV n)) ∧ w = w' := by
  by_cases h : n < 1
  · unfold grainV
    rw [if_pos h]
    go_enter Try.func39, Try.ntmps39
    go_wp2
    go_ret
    exact ⟨rfl, rfl⟩
  · go_enter Try.func39, Try.ntmps39
    go_wp2
    go_loop [0, 3] (fun m i => ∃ (a P : Int) (j : Nat), m = .int .i64 a ∧ i = .int .i64 P ∧ P = ((2 ^ j : Nat) : Int) ∧ 1 ≤ a ∧ a ≤ n ∧ n = P * a) (fun m _ => (intOf m).toNat)
    case atStart => exact ⟨n, 1, 0, rfl, rfl, by simp, by omega, by omega, by omega⟩
    case round =>
      obtain ⟨a, P, j, rfl, rfl, hP, ha, han, hg⟩ := hrel
      have hP0 : 0 < P := by have := Nat.two_pow_pos j; omega
      have HP := Lib.hid hP
      have Hg := Lib.hid hg
      by_cases he : a % 2 = 0
      · have hle : P < 4611686018427387904 := by
          have := two_pow_lt (j := j) (m := a) (by rw [← hP, ← hg]; exact hn) (by omega)
          omega
        have he' : (a % 2 == 0) = true := by rw [beq_iff_eq]; exact he
        clear hP hg
        go_wp2
        go_round
        case rel => exact ⟨a / 2, P * 2, j + 1, by go_num, by go_num, by rw [HP.out, Nat.pow_succ]; omega, by omega, by omega, by
          rw [Hg.out, Int.mul_assoc, show 2 * (a / 2) = a from by omega]⟩
        case measure => simp [intOf]; omega
      · have he' : (a % 2 == 0) = false := by rw [beq_eq_false_iff_ne]; exact he
        have hr : grainV n = P := by
          rw [hP]
          refine grain_odd (q := (a / 2).toNat) hn ?_
          rw [hg, hP, Int.natCast_mul]
          congr 1
          omega
        have Hr := Lib.hid hr
        clear hP hg hr
        go_wp2
        go_ret
        exact ⟨by rw [Hr.out]; rfl, rfl⟩
end Go.Proofs.Ythkpfeikpmcpeaa.Sizes
