/- Layer 4: alive, and the laws SizesRequests and SizesRounds, walked. -/
import Derived.Test.YthkpfeikpmcpeaaSizeQ
set_option linter.unusedVariables false
namespace Go.Proofs.Ythkpfeikpmcpeaa.Sizes
open Go.RowKit Go.Proofs.Ythkpfeikpmcpeaa.Aid
theorem v_up (w : World) : Calls Try.prog 30 #[.int .i64 33, .int .i64 16] w fun e w' => e = .returned (.tuple #[.int .i64 48, .int .i64 0]) ∧ w = w' := by
  have h := up_calls 33 16 w
  rwa [show upV 33 16 = 48 from by decide +kernel, show upE 33 16 = 0 from by decide +kernel] at h
theorem v_times (w : World) : Calls Try.prog 26 #[.int .u64 4294967296, .int .u64 4294967296] w fun e w' => e = .returned (.tuple #[.int .i64 0, .int .i64 14]) ∧ w = w' := by
  have h := times_calls 4294967296 4294967296 (by decide) (by decide) w
  rwa [show lim ((4294967296 * 4294967296 : Nat) : Int) = 0 from by decide +kernel, show limE ((4294967296 * 4294967296 : Nat) : Int) = 14 from by decide +kernel] at h
theorem v_pages (w : World) : Calls Try.prog 33 #[.int .i64 257] w fun e w' => e = .returned (.tuple #[.int .i64 2, .int .i64 0]) ∧ w = w' := by
  have h := pages_calls 257 w
  rwa [show pagesV 257 = 2 from by decide +kernel, show pagesE 257 = 0 from by decide +kernel] at h
theorem v_down (w : World) : Calls Try.prog 32 #[.int .i64 33, .int .i64 16] w fun e w' => e = .returned (.tuple #[.int .i64 32, .int .i64 0]) ∧ w = w' := by
  have h := down_calls 33 16 w
  rwa [show downV 33 16 = 32 from by decide +kernel, show downE 33 16 = 0 from by decide +kernel] at h
theorem v_of (w : World) : Calls Try.prog 25 #[.int .u64 7] w fun e w' => e = .returned (.tuple #[.int .i64 7, .int .i64 0]) ∧ w = w' := by
  have h := of_calls 7 (by decide) w
  rwa [show lim 7 = 7 from by decide +kernel, show limE 7 = 0 from by decide +kernel] at h
theorem v_align (w : World) : Calls Try.prog 28 #[.int .u64 0] w fun e w' => e = .returned (.tuple #[.int .i64 1, .int .i64 0]) ∧ w = w' := by
  have h := align_calls 0 (by decide) (by decide) w
  rwa [show alignV 0 = 1 from by decide +kernel, show alignE 0 = 0 from by decide +kernel] at h
theorem v_narrow (w : World) : Calls Try.prog 34 #[.int .i64 65535] w fun e w' => e = .returned (.tuple #[.int .u16 65535, .bool true]) ∧ w = w' := by
  have h := narrow_calls 65535 w
  rwa [if_pos (by decide), decide_eq_true (by decide)] at h
theorem v_power1 (w : World) : Calls Try.prog 35 #[.int .i64 1099511627776] w fun e w' => e = .returned (.bool true) ∧ w = w' := by
  have h := power_calls 1099511627776 w
  rwa [show isPow 1099511627776 = true from by decide +kernel] at h
theorem v_power2 (w : World) : Calls Try.prog 35 #[.int .i64 3] w fun e w' => e = .returned (.bool false) ∧ w = w' := by
  have h := power_calls 3 w
  rwa [show isPow 3 = false from by decide +kernel] at h
theorem v_log (w : World) : Calls Try.prog 36 #[.int .i64 1000] w fun e w' => e = .returned (.int .i64 9) ∧ w = w' := by
  have h := log_calls 1000 (by decide) w
  rwa [show logV 1000 = 9 from by decide +kernel] at h
theorem v_grain (w : World) : Calls Try.prog 38 #[.int .i64 48] w fun e w' => e = .returned (.int .i64 16) ∧ w = w' := by
  have h := grain_calls 48 (by decide) w
  rwa [show grainV 48 = 16 from by decide +kernel] at h
set_option maxRecDepth 100000 in
set_option maxHeartbeats 2000000 in
theorem alive_calls (w : World) : Calls Try.prog 24 #[] w fun e w' => e = .returned (.bool true) ∧ w = w' := by
  go_enter Try.func24, Try.ntmps24
  go_wp2_with (first
    | (go_at_call 30; (with_reducible refine (v_up _).mono ?_); rintro e w1 ⟨rfl, rfl⟩)
    | (go_at_call 26; (with_reducible refine (v_times _).mono ?_); rintro e w1 ⟨rfl, rfl⟩)
    | (go_at_call 33; (with_reducible refine (v_pages _).mono ?_); rintro e w1 ⟨rfl, rfl⟩)
    | (go_at_call 32; (with_reducible refine (v_down _).mono ?_); rintro e w1 ⟨rfl, rfl⟩)
    | (go_at_call 25; (with_reducible refine (v_of _).mono ?_); rintro e w1 ⟨rfl, rfl⟩)
    | (go_at_call 28; (with_reducible refine (v_align _).mono ?_); rintro e w1 ⟨rfl, rfl⟩)
    | (go_at_call 34; (with_reducible refine (v_narrow _).mono ?_); rintro e w1 ⟨rfl, rfl⟩)
    | (go_at_call 35; (with_reducible refine (v_power1 _).mono ?_); rintro e w1 ⟨rfl, rfl⟩)
    | (go_at_call 35; (with_reducible refine (v_power2 _).mono ?_); rintro e w1 ⟨rfl, rfl⟩)
    | (go_at_call 36; (with_reducible refine (v_log _).mono ?_); rintro e w1 ⟨rfl, rfl⟩)
    | (go_at_call 38; (with_reducible refine (v_grain _).mono ?_); rintro e w1 ⟨rfl, rfl⟩))
  go_ret
  exact ⟨rfl, rfl⟩
set_option maxRecDepth 100000 in
set_option maxHeartbeats 4000000 in
theorem requests_walk (a b : Int) (ha : 0 ≤ a ∧ a < 18446744073709551616) (hb : 0 ≤ b ∧ b < 18446744073709551616) (w : World) :
    Calls Try.prog 6 #[.int .u64 a, .int .u64 b] w fun e w' => e = .returned (.bool true) ∧ Below w.heap.size w w' := by
  have L := Lib.hid alive_calls
  have a0 := ha.1
  have b0 := hb.1
  obtain ⟨v1, e1, O, hO⟩ : ∃ v1 e1 : Int, Hid (∀ W, Calls Try.prog 25 #[.int .u64 a] W fun e w' => e = .returned (.tuple #[.int .i64 v1, .int .i64 e1]) ∧ W = w') ∧ (a ≤ 1099511627776 ∧ v1 = a ∧ e1 = 0 ∨ 1099511627776 < a ∧ v1 = 0 ∧ e1 = 14) := by
    refine ⟨_, _, Lib.hid (of_calls a a0), ?_⟩
    unfold lim limE
    by_cases h : 1099511627776 < a
    · exact .inr ⟨h, if_pos h, if_pos h⟩
    · exact .inl ⟨by omega, if_neg h, if_neg h⟩
  obtain ⟨v2, e2, T, R, hT⟩ : ∃ v2 e2 : Int, Hid (∀ W, Calls Try.prog 26 #[.int .u64 a, .int .u64 b] W fun e w' => e = .returned (.tuple #[.int .i64 v2, .int .i64 e2]) ∧ W = w') ∧ Hid (∀ W, Calls Try.prog 27 #[.int .u64 a, .int .u64 b] W fun e w' => e = .returned (.tuple #[.int .i64 v2, .bool (e2 == 0)]) ∧ W = w') ∧ (e2 = 0 ∨ e2 = 14) := by
    obtain ⟨x, rfl⟩ := Int.eq_ofNat_of_zero_le a0
    obtain ⟨y, rfl⟩ := Int.eq_ofNat_of_zero_le b0
    refine ⟨_, _, Lib.hid (times_calls x y (by omega) (by omega)), ?_⟩
    have h2 := rtimes_calls x y (by omega) (by omega)
    unfold limE
    by_cases h : 1099511627776 < ((x * y : Nat) : Int)
    · rw [if_pos h]
      rw [decide_eq_false (by omega)] at h2
      exact ⟨Lib.hid h2, .inr rfl⟩
    · rw [if_neg h]
      rw [decide_eq_true (by omega)] at h2
      exact ⟨Lib.hid h2, .inl rfl⟩
  obtain ⟨v3, e3, A, P, hA⟩ : ∃ v3 e3 : Int, Hid (∀ W, Calls Try.prog 28 #[.int .u64 a] W fun e w' => e = .returned (.tuple #[.int .i64 v3, .int .i64 e3]) ∧ W = w') ∧ Hid (1 ≤ a → a ≤ 4096 → ∀ W, Calls Try.prog 29 #[.int .i64 a] W fun e w' => e = .returned (.bool (e3 == 0)) ∧ W = w') ∧ (a = 0 ∧ v3 = 1 ∧ e3 = 0 ∨ 1 ≤ a ∧ a ≤ 4096 ∧ v3 = a ∧ e3 = 0 ∨ 1 ≤ a ∧ a ≤ 4096 ∧ v3 = 0 ∧ e3 = 11 ∨ 4096 < a ∧ v3 = 0 ∧ e3 = 11) := by
    refine ⟨_, _, Lib.hid (align_calls a a0 ha.2), Lib.hid fun h1 h2 => ?_, ?_⟩
    · have hm : max a 1 = a := by omega
      have h := rpower_calls a
      unfold alignE
      rw [hm]
      cases hp : isPow a
      · rw [hp] at h
        rw [if_neg (by simp)]; exact h
      · rw [hp] at h
        rw [if_pos ⟨h2, rfl⟩]; exact h
    · unfold alignV alignE
      by_cases hz : a = 0
      · subst hz
        exact .inl ⟨rfl, by decide +kernel, by decide +kernel⟩
      · rw [show max a 1 = a by omega]
        by_cases h2 : a ≤ 4096
        · cases hp : isPow a
          · exact .inr (.inr (.inl ⟨by omega, h2, if_neg (by simp), if_neg (by simp)⟩))
          · exact .inr (.inl ⟨by omega, h2, if_pos ⟨h2, rfl⟩, if_pos ⟨h2, rfl⟩⟩)
        · exact .inr (.inr (.inr ⟨by omega, if_neg (fun h => h2 h.1), if_neg (fun h => h2 h.1)⟩))
  clear ha hb
  have n2 : (v2 != v2) = false := by simp
  rcases hO with ⟨h1, rfl, rfl⟩ | ⟨h1, rfl, rfl⟩
  all_goals rcases hT with rfl | rfl
  all_goals rcases hA with ⟨h3, rfl, rfl⟩ | ⟨h3, h4, rfl, rfl⟩ | ⟨h3, h4, rfl, rfl⟩ | ⟨h3, rfl, rfl⟩
  all_goals try omega
  all_goals
    try subst h3
    go_enter Try.func6, Try.ntmps6
    go_wp2_with (first
      | (go_at_call 24; refine (L.out _).mono ?_; rintro e w1 ⟨rfl, rfl⟩)
      | (go_at_call 25; refine (O.out _).mono ?_; rintro e w1 ⟨rfl, rfl⟩)
      | (go_at_call 26; refine (T.out _).mono ?_; rintro e w1 ⟨rfl, rfl⟩)
      | (go_at_call 27; refine (R.out _).mono ?_; rintro e w1 ⟨rfl, rfl⟩)
      | (go_at_call 29; refine (P.out (by assumption) (by assumption) _).mono ?_; rintro e w1 ⟨rfl, rfl⟩)
      | (go_at_call 28; refine (A.out _).mono ?_; rintro e w1 ⟨rfl, rfl⟩))
    go_ret
    exact ⟨ret_bool (by first | rfl | simp), Below.refl _ _⟩
end Go.Proofs.Ythkpfeikpmcpeaa.Sizes
