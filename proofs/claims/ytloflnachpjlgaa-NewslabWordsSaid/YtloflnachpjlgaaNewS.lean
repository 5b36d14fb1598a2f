/- The document's Word; NewslabWords: the walk. -/
import Derived.Test.YtloflnachpjlgaaNewR
set_option linter.unusedSimpArgs false
namespace Go.Proofs.Ytloflnachpjlgaa.New
open Go.RowKit Go.Proofs.Ytloflnachpjlgaa.Aid Go.Proofs.Ytloflnachpjlgaa.Cell
theorem rword_no (s n c : Int) (w : World) (h : wordB s n c = false) : Calls Try.prog 11 #[.int .i64 s, .int .i64 n, .int .i64 c] w fun e w' => e = .returned (.tuple #[.int .u64 0, .bool false]) ∧ w = w' := by
  have hc : s < 0 ∨ (0 ≤ s ∧ 127 < s) ∨ (0 ≤ s ∧ s ≤ 127 ∧ n < -1) ∨ (0 ≤ s ∧ s ≤ 127 ∧ -1 ≤ n ∧ 127 < n) ∨ (0 ≤ s ∧ s ≤ 127 ∧ -1 ≤ n ∧ n ≤ 127 ∧ c < 0) ∨ (0 ≤ s ∧ s ≤ 127 ∧ -1 ≤ n ∧ n ≤ 127 ∧ 0 ≤ c ∧ 11 < c) := by
    have : ¬ ((0 ≤ s ∧ s ≤ 127) ∧ (-1 ≤ n ∧ n ≤ 127) ∧ 0 ≤ c ∧ c ≤ 11) := fun e => by
      rw [wordB_iff.2 e] at h
      cases h
    omega
  clear h
  rcases hc with h | ⟨h1, h2⟩ | ⟨h1, h2, h3⟩ | ⟨h1, h2, h3, h4⟩ | ⟨h1, h2, h3, h4, h5⟩ | ⟨h1, h2, h3, h4, h5, h6⟩
  all_goals
    go_enter Try.func11, Try.ntmps11
    go_wp2_with fail
    go_ret2
    exact ⟨rfl, rfl⟩
theorem rword_yes (s n c : Int) (w : World) (h : wordB s n c = true) : Calls Try.prog 11 #[.int .i64 s, .int .i64 n, .int .i64 c] w fun e w' => e = .returned (.tuple #[.int .u64 (wordV s n c), .bool true]) ∧ w = w' := by
  obtain ⟨⟨h1, h2⟩, ⟨h3, h4⟩, h5, h6⟩ := wordB_iff.1 h
  have e1 : IntKind.i64.wrap (n + 1) = n + 1 := IntWalk.i64_in _ (by omega)
  have e2 : IntKind.u64.wrap (n + 1) = n + 1 := by rw [u64_wrap]; omega
  have e3 : IntKind.u64.wrap s = s := by rw [u64_wrap]; omega
  have e4 : IntKind.u64.wrap c = c := by rw [u64_wrap]; omega
  have e5 : IntKind.u64.wrap (256 * s) = 256 * s := by rw [u64_wrap]; omega
  have e6 : IntKind.u64.wrap (n + 1 + 256 * s) = n + 1 + 256 * s := by rw [u64_wrap]; omega
  have e7 : IntKind.u64.wrap (65536 * c) = 65536 * c := by rw [u64_wrap]; omega
  have e8 : IntKind.u64.wrap (n + 1 + 256 * s + 65536 * c) = n + 1 + 256 * s + 65536 * c := by rw [u64_wrap]; omega
  have e9 : IntKind.u64.wrap (n + 1 + 256 * s + 65536 * c + 7382074224233414656) = n + 1 + 256 * s + 65536 * c + 7382074224233414656 := by rw [u64_wrap]; omega
  have hv : wordV s n c = n + 1 + 256 * s + 65536 * c + 7382074224233414656 := rfl
  rw [hv]
  clear hv h
  go_enter Try.func11, Try.ntmps11
  go_wp2_with fail
  go_ret2
  exact ⟨rfl, rfl⟩
theorem rword_calls (s n c : Int) (w : World) : Calls Try.prog 11 #[.int .i64 s, .int .i64 n, .int .i64 c] w fun e w' => e = .returned (.tuple #[.int .u64 (if wordB s n c = true then wordV s n c else 0), .bool (wordB s n c)]) ∧ w = w' := by
  cases h : wordB s n c with
  | true => exact rword_yes s n c w h
  | false => exact rword_no s n c w h
/-- A word with the mark tells itself. -/
theorem word_marked {x : Nat} (h : x / 16777216 = 440005911841) : wordV (slotOf x : Nat) (nextOf x) (classOf x : Nat) = (x : Int) := by
  unfold wordV slotOf nextOf classOf
  omega
end Go.Proofs.Ytloflnachpjlgaa.New
