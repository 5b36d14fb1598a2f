/- Layer 6: Index, Contains and First over any list; Class, Size, Slots, Aligned, Twin, Both; the document's Place and Size. -/
import Derived.Test.YthkpfeikpmcpeaaTbbB
set_option linter.unusedVariables false
namespace Go.Proofs.Ythkpfeikpmcpeaa.Tbb
open Go.RowKit Go.Proofs.Ythkpfeikpmcpeaa.Aid Go.Proofs.Ythkpfeikpmcpeaa.Tab
/-- The first place of a number in a list, from k on; -1: none. -/
def placeGo (xs : List Int) (n : Int) : Nat → Nat → Int
  | 0, _ => -1
  | d + 1, k => if n = xs.getD k 0 then k else placeGo xs n d (k + 1)
theorem placeGo_step (xs : List Int) (n : Int) (d k : Nat) : placeGo xs n (d + 1) k = if n = xs.getD k 0 then (k : Int) else placeGo xs n d (k + 1) := rfl
def placeV (xs : List Int) (n : Int) : Int := placeGo xs n xs.length 0
theorem index_calls (xs : List Int) (A : Option Addr) (c : Nat) (n : Int) (w : World) (hx : Ints w .i64 A xs) (hl : xs.length ≤ 16) :
    Calls Try.prog 59 #[.slice A xs.length c, .int .i64 n] w fun e w' => e = .returned (.int .i64 (placeV xs n)) ∧ w = w' := by
  unfold placeV
  generalize hL : xs.length = L at hl ⊢
  go_enter Try.func59, Try.ntmps59
  go_wp2
  go_loop [8] (fun i => ∃ (k : Nat), i = .int .i64 k ∧ k ≤ L ∧ placeGo xs n L 0 = placeGo xs n (L - k) k) (fun i => L - (intOf i).toNat)
  case atStart => exact ⟨0, rfl, by omega, rfl⟩
  case round =>
    obtain ⟨k, rfl, hk, hg⟩ := hrel
    by_cases hlt : k < L
    · rw [show L - k = (L - (k + 1)) + 1 from by omega, placeGo_step xs n (L - (k + 1)) k] at hg
      obtain ⟨b, o, rfl, hbl, hc0⟩ := hx k (by omega)
      generalize xs.getD k 0 = s at hc0 hg
      have hi0 : (0 : Int) ≤ (k : Int) := Int.natCast_nonneg _
      have hi1 : (k : Int) < (L : Int) := by omega
      by_cases hns : n = s
      · rw [if_pos hns] at hg
        have Hg := Lib.hid hg
        clear hg
        subst hns
        have hee : (n == n) = true := by simp
        go_wp2
        go_ret
        exact ⟨ret_int (by rw [Hg.out]), rfl⟩
      · rw [if_neg hns] at hg
        have hee : (n == s) = false := by rw [beq_eq_false_iff_ne]; exact hns
        have Hg := Lib.hid hg
        clear hg hns
        go_wp2
        go_round
        case rel => exact ⟨k + 1, by go_num, by omega, Hg.out⟩
        case measure => simp [intOf]; omega
    · rw [show L - k = 0 from by omega] at hg
      have Hg := Lib.hid (show placeGo xs n L 0 = -1 from hg)
      clear hg
      go_wp2
      go_ret
      exact ⟨ret_int (by rw [Hg.out]), rfl⟩
theorem contains_calls (xs : List Int) (A : Option Addr) (c : Nat) (n : Int) (w : World) (hx : Ints w .i64 A xs) (hl : xs.length ≤ 16) :
    Calls Try.prog 61 #[.slice A xs.length c, .int .i64 n] w fun e w' => e = .returned (.bool (decide (0 ≤ placeV xs n))) ∧ w = w' := by
  have I := Lib.hid (index_calls xs A c n w hx hl)
  generalize placeV xs n = p at I ⊢
  go_enter Try.func61, Try.ntmps61
  go_wp2_with (first
    | (go_at_call 59; refine I.out.mono ?_; rintro e w' ⟨rfl, rfl⟩))
  go_ret
  exact ⟨rfl, rfl⟩
end Go.Proofs.Ythkpfeikpmcpeaa.Tbb
