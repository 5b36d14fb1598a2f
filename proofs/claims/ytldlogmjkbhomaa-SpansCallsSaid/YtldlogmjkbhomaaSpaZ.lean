/- The contract of package underpinref05's Align. -/
import Derived.Test.YtldlogmjkbhomaaSpaY
set_option linter.unusedSimpArgs false
namespace Go.Proofs.Ytldlogmjkbhomaa.Spa
open Go.RowKit Go.Proofs.Ytldlogmjkbhomaa.Aid
theorem pow_le13 {k : Nat} (h : k ≤ 12) : 1 ≤ 2 ^ k ∧ 2 ^ k ≤ 4096 := ⟨Nat.two_pow_pos k, Nat.le_trans (Nat.pow_le_pow_right (by decide) h) (by decide)⟩
theorem align_yes {k : Nat} (h : k ≤ 12) : (isPow ((2 ^ k : Nat) : Int) && decide (((2 ^ k : Nat) : Int) ≤ 4096)) = true := by
  have h1 := pow_le13 h
  rw [(isPow_iff _).2 ⟨k, by omega, rfl⟩, Bool.true_and]
  generalize 2 ^ k = q at *
  exact decide_eq_true (by omega)
theorem align_no {n : Int} (h : ∀ j, j < 13 → n ≠ ((2 ^ j : Nat) : Int)) : (isPow n && decide (n ≤ 4096)) = false := by
  cases hp : isPow n
  · rfl
  · obtain ⟨k, hk, rfl⟩ := (isPow_iff n).1 hp
    by_cases h1 : k < 13
    · exact absurd rfl (h k h1)
    · have h2 : 8192 ≤ 2 ^ k := Nat.le_trans (show 8192 ≤ 2 ^ 13 by decide) (Nat.pow_le_pow_right (by decide) (by omega))
      rw [Bool.true_and]
      clear hp h hk h1
      generalize 2 ^ k = q at *
      exact decide_eq_false (by omega)
theorem align_calls (w : World) (n : Int) : Calls Try.prog 83 #[.int .i64 n] w fun e w' => e = .returned (.bool (isPow n && decide (n ≤ 4096))) ∧ w = w' := by
  go_enter Try.func83, Try.ntmps83
  go_wp2
  go_loopw [3] (fun a wr => ∃ k : Nat, a = .int .i64 ((2 ^ k : Nat) : Int) ∧ k ≤ 13 ∧ (∀ j, j < k → n ≠ ((2 ^ j : Nat) : Int)) ∧ w = wr) (fun a _ => 9000 - (intOf a).toNat)
  case atStart => exact ⟨0, rfl, by omega, fun j hj => by omega, rfl⟩
  case round =>
    obtain ⟨k, rfl, hk, hn, rfl⟩ := hrel
    have HN := Lib.hid hn
    clear hn
    by_cases h1 : k ≤ 12
    · obtain ⟨b1, b2⟩ := pow_le13 h1
      have HE := Lib.hid (Nat.pow_succ 2 k)
      by_cases he : n = ((2 ^ k : Nat) : Int)
      · have HY := Lib.hid (align_yes h1)
        rw [← he] at HY
        have hle : ((2 ^ k : Nat) : Int) ≤ 4096 := by omega
        generalize 2 ^ k = q at *
        subst he
        go_wp2
        go_ret
        exact ⟨ret_bool HY.out.symm, rfl⟩
      · have HI := Lib.hid (show ∀ j, j < k + 1 → n ≠ ((2 ^ j : Nat) : Int) from fun j hj => by
          rcases Nat.lt_succ_iff_lt_or_eq.1 hj with h | h
          · exact HN.out j h
          · subst h; exact he)
        have HQ := Lib.hid (show ∃ q2, 2 ^ (k + 1) = q2 ∧ q2 = 2 ^ k * 2 from ⟨_, rfl, Nat.pow_succ 2 k⟩)
        generalize hq : 2 ^ k = q at *
        have hle : ((q : Nat) : Int) ≤ 4096 := by omega
        have hwr : IntKind.i64.wrap ((q : Int) * 2) = (q : Int) * 2 := by rw [i64_wrap]; unfold wrap64; omega
        clear hq
        go_wp2
        go_roundw
        case rel =>
          obtain ⟨q2, hq2, hq3⟩ := HQ.out
          exact ⟨k + 1, by rw [hq2, hq3]; go_num, by omega, HI.out, by first | rfl | trivial⟩
        case measure =>
          simp [intOf]
          omega
    · obtain rfl : k = 13 := by omega
      have HY := Lib.hid (align_no HN.out)
      rw [show (2 ^ 13 : Nat) = 8192 from rfl]
      have h8 : ¬ (((8192 : Nat) : Int) ≤ 4096) := by decide
      go_wp2
      go_ret
      exact ⟨ret_bool HY.out.symm, rfl⟩
end Go.Proofs.Ytldlogmjkbhomaa.Spa
