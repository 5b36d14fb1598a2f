/- Layer 4: the law SizesRounds, walked. -/
import Derived.Test.YthkpfeikpmcpeaaSizeW
set_option linter.unusedVariables false
namespace Go.Proofs.Ythkpfeikpmcpeaa.Sizes
open Go.RowKit Go.Proofs.Ythkpfeikpmcpeaa.Aid
set_option maxRecDepth 100000 in
set_option maxHeartbeats 4000000 in
theorem rounds_walk (n p : Int) (hn : -9223372036854775808 ≤ n ∧ n < 9223372036854775808) (hp : -9223372036854775808 ≤ p ∧ p < 9223372036854775808) (w : World) :
    Calls Try.prog 7 #[.int .i64 n, .int .i64 p] w fun e w' => e = .returned (.bool true) ∧ Below w.heap.size w w' := by
  have L := Lib.hid alive_calls
  have U := Lib.hid (up_calls n p)
  have RU := Lib.hid (rup_calls n p hp.1 hp.2)
  generalize upV n p = u at U RU
  generalize upE n p = ue at U RU
  have G := Lib.hid (grain_calls n hn.2)
  have RG := Lib.hid (rgrain_calls n hn.2)
  generalize grainV n = g at G RG
  have LO := Lib.hid (log_calls n hn.2)
  have RLO := Lib.hid (rlog_calls n hn.2)
  generalize logV n = lo at LO RLO
  have nu : (u != u) = false := by simp
  have nue : (ue != ue) = false := by simp
  have ng : (g != g) = false := by simp
  have nlo : (lo != lo) = false := by simp
  obtain ⟨d, de, pg, pe, D, PG, hD⟩ : ∃ d de pg pe : Int, Hid (∀ W, Calls Try.prog 32 #[.int .i64 n, .int .i64 p] W fun e w' => e = .returned (.tuple #[.int .i64 d, .int .i64 de]) ∧ W = w') ∧ Hid (∀ W, Calls Try.prog 33 #[.int .i64 n] W fun e w' => e = .returned (.tuple #[.int .i64 pg, .int .i64 pe]) ∧ W = w') ∧ (¬ (0 ≤ n ∧ n ≤ 1099511627776) ∧ d = 0 ∧ de = 11 ∧ pg = 0 ∧ pe = 11 ∨ (0 ≤ n ∧ n ≤ 1099511627776) ∧ (pg != max ((n + 255) / 256) 1) = false ∧ pe = 0 ∧ (isPow p = false ∧ d = 0 ∧ de = 11 ∨ isPow p = true ∧ 1 ≤ p ∧ 0 ≤ n % p ∧ n % p ≤ n ∧ de = 0 ∧ (d == n - n % p) = true)) := by
    refine ⟨_, _, _, _, Lib.hid (down_calls n p), Lib.hid (pages_calls n), ?_⟩
    by_cases h : 0 ≤ n ∧ n ≤ 1099511627776
    · refine .inr ⟨h, by unfold pagesV; rw [if_pos h, show n + 256 - 1 = n + 255 by omega]; simp, by unfold pagesE; rw [if_pos h], ?_⟩
      cases hp : isPow p
      · exact .inl ⟨rfl, by unfold downV okN; rw [hp]; simp, by unfold downE okN; rw [hp]; simp⟩
      · have hok : okN n p = true := by unfold okN; rw [hp, decide_eq_true h]; rfl
        have hb := isPow_bounds hp
        refine .inr ⟨rfl, hb.1, Int.emod_nonneg _ (by omega), by
          have e := Int.mul_ediv_add_emod n p
          have := Int.mul_nonneg (show 0 ≤ p by omega) (Int.ediv_nonneg h.1 (show 0 ≤ p by omega))
          omega, by unfold downE; rw [if_pos hok], ?_⟩
        unfold downV
        rw [if_pos hok, beq_iff_eq]
        have e := Int.mul_ediv_add_emod n p
        rw [Int.mul_comm]
        omega
    · have hok : okN n p = false := by unfold okN; rw [decide_eq_false h]; rfl
      exact .inl ⟨h, by unfold downV; rw [hok]; simp, by unfold downE; rw [hok]; simp, by unfold pagesV; rw [if_neg h], by unfold pagesE; rw [if_neg h]⟩
  have PW := Lib.hid (power_calls p)
  have RPW := Lib.hid (rpower_calls p)
  obtain ⟨nv, nk, N, hN⟩ : ∃ (nv : Int) (nk : Bool), Hid (∀ W, Calls Try.prog 34 #[.int .i64 n] W fun e w' => e = .returned (.tuple #[.int .u16 nv, .bool nk]) ∧ W = w') ∧ ((0 ≤ n ∧ n ≤ 65535) ∧ n = nv ∧ nk = true ∨ (¬ (0 ≤ n ∧ n ≤ 65535)) ∧ nv = 0 ∧ nk = false) := by
    refine ⟨_, _, Lib.hid (narrow_calls n), ?_⟩
    by_cases h : 0 ≤ n ∧ n ≤ 65535
    · exact .inl ⟨h, (if_pos h).symm, decide_eq_true h⟩
    · exact .inr ⟨h, if_neg h, decide_eq_false h⟩
  generalize isPow p = b at PW RPW hD
  have hn0 := hn.1
  have hn1 := hn.2
  have hp0 := hp.1
  have hp1 := hp.2
  clear hn hp
  rcases hD with ⟨h1, rfl, rfl, rfl, rfl⟩ | ⟨⟨h1, h1'⟩, hpg, rfl, ⟨rfl, rfl, rfl⟩ | ⟨rfl, hp1, hm0, hm1, rfl, hd⟩⟩
  all_goals rcases hN with ⟨⟨h3, h4⟩, rfl, rfl⟩ | ⟨h3, rfl, rfl⟩
  all_goals try omega
  all_goals rcases (by omega : n < 0 ∨ (0 ≤ n ∧ n ≤ 65535) ∨ (65535 < n ∧ n ≤ 1099511627776) ∨ 1099511627776 < n) with h5 | ⟨h5, h6⟩ | ⟨h5, h6⟩ | h5
  all_goals try (exfalso; omega)
  all_goals try cases b
  all_goals
    try clear h1
    try clear h3
    go_enter Try.func7, Try.ntmps7
    go_wp2_with (first
      | (go_at_call 24; refine (L.out _).mono ?_; rintro e w1 ⟨rfl, rfl⟩)
      | (go_at_call 30; refine (U.out _).mono ?_; rintro e w1 ⟨rfl, rfl⟩)
      | (go_at_call 31; refine (RU.out _).mono ?_; rintro e w1 ⟨rfl, rfl⟩)
      | (go_at_call 32; refine (D.out _).mono ?_; rintro e w1 ⟨rfl, rfl⟩)
      | (go_at_call 33; refine (PG.out _).mono ?_; rintro e w1 ⟨rfl, rfl⟩)
      | (go_at_call 34; refine (N.out _).mono ?_; rintro e w1 ⟨rfl, rfl⟩)
      | (go_at_call 35; refine (PW.out _).mono ?_; rintro e w1 ⟨rfl, rfl⟩)
      | (go_at_call 29; refine (RPW.out _).mono ?_; rintro e w1 ⟨rfl, rfl⟩)
      | (go_at_call 36; refine (LO.out _).mono ?_; rintro e w1 ⟨rfl, rfl⟩)
      | (go_at_call 37; refine (RLO.out _).mono ?_; rintro e w1 ⟨rfl, rfl⟩)
      | (go_at_call 38; refine (G.out _).mono ?_; rintro e w1 ⟨rfl, rfl⟩)
      | (go_at_call 39; refine (RG.out _).mono ?_; rintro e w1 ⟨rfl, rfl⟩))
    go_ret
    exact ⟨ret_bool (by first | rfl | assumption | (simp; done) | (simp [*]; done)), Below.refl _ _⟩
end Go.Proofs.Ythkpfeikpmcpeaa.Sizes
