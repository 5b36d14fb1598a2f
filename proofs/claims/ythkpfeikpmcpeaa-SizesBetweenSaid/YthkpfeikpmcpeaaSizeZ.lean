/- Layer 4: the law SizesBetween, walked. -/
import Derived.Test.YthkpfeikpmcpeaaSizeW
set_option linter.unusedVariables false
namespace Go.Proofs.Ythkpfeikpmcpeaa.Sizes
open Go.RowKit Go.Proofs.Ythkpfeikpmcpeaa.Aid
theorem upN_mono {n m p : Int} (hp : 1 ≤ p) (h : n ≤ m) : upN n p ≤ upN m p := by
  unfold upN
  exact Int.mul_le_mul_of_nonneg_right (Int.ediv_le_ediv (by omega) (by omega)) (by omega)
/-- What Up and Down of one number tell. -/
theorem between {n p : Int} (h0 : 0 ≤ n) (hp : 1 ≤ p) : ∃ q : Int, 0 ≤ q ∧ n / p * p = q * p ∧ (upN n p = q * p ∧ n = q * p ∨ upN n p = q * p + p ∧ q * p < n ∧ n < q * p + p) := by
  have hu := upN_eq n p h0 hp
  have hadd : (n / p + 1) * p = n / p * p + p := by rw [Int.add_mul]; omega
  have e := Int.mul_ediv_add_emod n p
  have r0 := Int.emod_nonneg n (show p ≠ 0 by omega)
  have r1 := Int.emod_lt_of_pos n (show 0 < p by omega)
  have c := Int.mul_comm p (n / p)
  refine ⟨n / p, Int.ediv_nonneg h0 (by omega), rfl, ?_⟩
  by_cases h : n / p * p < n
  · rw [if_pos h, hadd] at hu
    exact .inr ⟨hu, h, by omega⟩
  · rw [if_neg h] at hu
    exact .inl ⟨hu, by omega⟩
theorem up_mul (q p : Int) (h0 : 0 ≤ q) (hp : 1 ≤ p) (hM : q * p ≤ 1099511627776) (hpp : isPow p = true) (w : World) : Calls Try.prog 30 #[.int .i64 (q * p), .int .i64 p] w fun e w' => e = .returned (.tuple #[.int .i64 (q * p), .int .i64 0]) ∧ w = w' := by
  have hq := Int.mul_nonneg h0 (show 0 ≤ p by omega)
  have hok : okN (q * p) p = true := by unfold okN; rw [hpp, decide_eq_true ⟨hq, hM⟩]; rfl
  have hu := upN_eq (q * p) p hq hp
  rw [Int.mul_ediv_cancel _ (by omega), if_neg (by omega)] at hu
  have h := up_calls (q * p) p w
  rwa [show upV (q * p) p = q * p from by unfold upV; rw [if_pos hok, hu, if_neg (by omega)], show upE (q * p) p = 0 from by unfold upE; rw [if_pos hok, hu, if_neg (by omega)]] at h
theorem down_mul (q p : Int) (h0 : 0 ≤ q) (hp : 1 ≤ p) (hM : q * p ≤ 1099511627776) (hpp : isPow p = true) (w : World) : Calls Try.prog 32 #[.int .i64 (q * p), .int .i64 p] w fun e w' => e = .returned (.tuple #[.int .i64 (q * p), .int .i64 0]) ∧ w = w' := by
  have hq := Int.mul_nonneg h0 (show 0 ≤ p by omega)
  have hok : okN (q * p) p = true := by unfold okN; rw [hpp, decide_eq_true ⟨hq, hM⟩]; rfl
  have h := down_calls (q * p) p w
  rwa [show downV (q * p) p = q * p from by unfold downV; rw [if_pos hok, Int.mul_ediv_cancel _ (by omega)], show downE (q * p) p = 0 from by unfold downE; rw [if_pos hok]] at h
set_option maxRecDepth 100000 in
set_option maxHeartbeats 4000000 in
theorem between_walk (n m p : Int) (hn : -9223372036854775808 ≤ n ∧ n < 9223372036854775808) (hm : -9223372036854775808 ≤ m ∧ m < 9223372036854775808) (hp : -9223372036854775808 ≤ p ∧ p < 9223372036854775808) (w : World) :
    Calls Try.prog 8 #[.int .i64 n, .int .i64 m, .int .i64 p] w fun e w' => e = .returned (.bool true) ∧ Below w.heap.size w w' := by
  have L := Lib.hid alive_calls
  cases hok : okN n p
  · have U := Lib.hid (up_calls n p)
    rw [show upV n p = 0 from by unfold upV; rw [hok]; simp, show upE n p = 11 from by unfold upE; rw [hok]; simp] at U
    have D := Lib.hid (down_calls n p)
    clear hok
    go_enter Try.func8, Try.ntmps8
    go_wp2_with (first
      | (go_at_call 24; refine (L.out _).mono ?_; rintro e w1 ⟨rfl, rfl⟩)
      | (go_at_call 30; refine (U.out _).mono ?_; rintro e w1 ⟨rfl, rfl⟩)
      | (go_at_call 32; refine (D.out _).mono ?_; rintro e w1 ⟨rfl, rfl⟩))
    go_ret
    exact ⟨ret_bool (by first | rfl | assumption | (simp; done) | (simp [*]; done)), Below.refl _ _⟩
  · have hok' : (0 ≤ n ∧ n ≤ 1099511627776) ∧ isPow p = true := by
      unfold okN at hok
      rw [Bool.and_eq_true] at hok
      exact ⟨of_decide_eq_true hok.1, hok.2⟩
    obtain ⟨⟨h0, h1⟩, hpp⟩ := hok'
    have hb := isPow_bounds hpp
    have D := Lib.hid (down_calls n p)
    rw [show downV n p = n / p * p from by unfold downV; rw [if_pos hok], show downE n p = 0 from by unfold downE; rw [if_pos hok]] at D
    by_cases hbig : 1099511627776 < upN n p
    · have U := Lib.hid (up_calls n p)
      rw [show upV n p = 0 from by unfold upV; rw [if_pos hok, if_pos hbig], show upE n p = 14 from by unfold upE; rw [if_pos hok, if_pos hbig]] at U
      clear hok hbig
      go_enter Try.func8, Try.ntmps8
      go_wp2_with (first
        | (go_at_call 24; refine (L.out _).mono ?_; rintro e w1 ⟨rfl, rfl⟩)
        | (go_at_call 30; refine (U.out _).mono ?_; rintro e w1 ⟨rfl, rfl⟩)
        | (go_at_call 32; refine (D.out _).mono ?_; rintro e w1 ⟨rfl, rfl⟩))
      go_ret
      exact ⟨ret_bool (by first | rfl | assumption | (simp; done) | (simp [*]; done)), Below.refl _ _⟩
    · have U := Lib.hid (up_calls n p)
      rw [show upV n p = upN n p from by unfold upV; rw [if_pos hok, if_neg hbig], show upE n p = 0 from by unfold upE; rw [if_pos hok, if_neg hbig]] at U
      -- the third number
      obtain ⟨x, xe, X, hX⟩ : ∃ x xe : Int, Hid (∀ W, Calls Try.prog 30 #[.int .i64 m, .int .i64 p] W fun e w' => e = .returned (.tuple #[.int .i64 x, .int .i64 xe]) ∧ W = w') ∧ ((xe != 0) = true ∨ xe = 0 ∧ (m < n ∨ n ≤ m ∧ upN n p ≤ x)) := by
        refine ⟨_, _, Lib.hid (up_calls m p), ?_⟩
        unfold upV upE
        by_cases hokm : okN m p = true
        · rw [if_pos hokm, if_pos hokm]
          by_cases hbm : 1099511627776 < upN m p
          · rw [if_pos hbm]; exact .inl rfl
          · rw [if_neg hbm, if_neg hbm]
            refine .inr ⟨rfl, ?_⟩
            by_cases hmn : m < n
            · exact .inl hmn
            · exact .inr ⟨by omega, upN_mono hb.1 (by omega)⟩
        · rw [if_neg hokm]; exact .inl rfl
      obtain ⟨q, hq0, hq1, hq2⟩ := between h0 hb.1
      rw [hq1] at D
      have hqp0 : 0 ≤ q * p := Int.mul_nonneg hq0 (by omega)
      have DD := Lib.hid (fun h => down_mul q p hq0 hb.1 h hpp)
      have dm : q * p % p = 0 := Int.mul_emod_left _ _
      have dm' : (q * p % p != 0) = false := by rw [dm]; rfl
      have hp1 := hb.1
      have hp2 := hb.2
      rcases hq2 with ⟨hu, hnq⟩ | ⟨hu, hlt, hgt⟩
      · rw [hu] at U hX hbig
        have UU := Lib.hid (fun h => up_mul q p hq0 hb.1 h hpp)
        have hs : (q * p != q * p) = false := by simp
        clear hok hq1 hu dm hn hm hp hb hpp
        generalize q * p = a at U D UU DD hX hbig hqp0 dm' hnq hs
        subst hnq
        have hz : (n - n != 0) = false := by simp
        rcases hX with hx | ⟨rfl, hx | ⟨hx, hx'⟩⟩
        all_goals
          go_enter Try.func8, Try.ntmps8
          go_wp2_with (first
            | (go_at_call 24; refine (L.out _).mono ?_; rintro e w1 ⟨rfl, rfl⟩)
            | (go_at_call 30; with_reducible refine (U.out _).mono ?_; rintro e w1 ⟨rfl, rfl⟩)
            | (go_at_call 30; with_reducible refine (X.out _).mono ?_; rintro e w1 ⟨rfl, rfl⟩)
            | (go_at_call 32; refine (D.out _).mono ?_; rintro e w1 ⟨rfl, rfl⟩))
          go_ret
          exact ⟨ret_bool (by first | rfl | assumption | (simp; done) | (simp [*]; done)), Below.refl _ _⟩
      · have hu' : q * p + p = (q + 1) * p := by rw [Int.add_mul]; omega
        rw [hu] at U hX hbig
        have UU := Lib.hid (fun h => up_mul (q + 1) p (by omega) hb.1 h hpp)
        rw [← hu'] at UU
        have um : (q * p + p) % p = 0 := by rw [hu', Int.mul_emod_left]
        have um' : ((q * p + p) % p != 0) = false := by rw [um]; rfl
        clear hok hq1 hu dm hn hm hp hb hpp um hu'
        generalize q * p = d at U D UU DD hX hbig hqp0 dm' hlt hgt um'
        obtain ⟨a, ha⟩ : ∃ a : Int, a = d + p := ⟨_, rfl⟩
        rw [← ha] at U UU hX hbig um'
        have hs : (a != a) = false := by simp
        have hs2 : (d != d) = false := by simp
        have hz : (a - d != p) = false := by rw [ha]; simp [show d + p - d = p by omega]
        rcases hX with hx | ⟨rfl, hx | ⟨hx, hx'⟩⟩
        all_goals
          clear hq0
          obtain ⟨g1, g2, g3, g4, g5⟩ : a - n < p ∧ n - d < p ∧ n ≤ a ∧ d ≤ n ∧ 0 < a - d := by omega
          have g6 : (a - d != 0) = true := by rw [bne_iff_ne]; omega
          have HA := Lib.hid ha
          clear ha
          go_enter Try.func8, Try.ntmps8
          go_wp2_with (first
            | (go_at_call 24; refine (L.out _).mono ?_; rintro e w1 ⟨rfl, rfl⟩)
            | (go_at_call 30; with_reducible refine (U.out _).mono ?_; rintro e w1 ⟨rfl, rfl⟩)
            | (go_at_call 30; with_reducible refine (UU.out (by omega) _).mono ?_; rintro e w1 ⟨rfl, rfl⟩)
            | (go_at_call 30; with_reducible refine (X.out _).mono ?_; rintro e w1 ⟨rfl, rfl⟩)
            | (go_at_call 32; with_reducible refine (D.out _).mono ?_; rintro e w1 ⟨rfl, rfl⟩)
            | (go_at_call 32; with_reducible refine (DD.out (by omega) _).mono ?_; rintro e w1 ⟨rfl, rfl⟩))
          go_ret
          exact ⟨ret_bool (by first | rfl | assumption | (simp; done) | (simp [*]; done)), Below.refl _ _⟩
end Go.Proofs.Ythkpfeikpmcpeaa.Sizes
