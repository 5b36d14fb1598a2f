/- The document's SameInts: are two lists of numbers the same? -/
import Derived.Test.YtloflnachpjlgaaProg
import Derived.Test.YtloflnachpjlgaaAidMem
import Derived.Outline
set_option linter.unusedVariables false
namespace Go.Proofs.Ytloflnachpjlgaa.Aid
open Go.RowKit
theorem same_ints (xs ys : List Int) (A A' : Option Addr) (c c' : Nat) (w : World) (hx : Ints w .i64 A xs) (hy : Ints w .i64 A' ys) (hl : xs.length ≤ maxLen) :
    Calls Try.prog 23 #[.slice A xs.length c, .slice A' ys.length c'] w fun e w' => e = .returned (.bool (xs == ys)) ∧ ∃ nq, w' = w.drewN nq := by
  have hmax : maxLen < 9223372036854775808 := by decide
  have hlen := hl
  by_cases he : xs.length = ys.length
  · have he' : ((xs.length : Int) != ys.length) = false := by rw [he]; simp
    go_enter Try.func23, Try.ntmps23
    go_wp2_with fail
    go_loopw [5] (fun i wr => ∃ (k nq : Nat), i = .int .i64 k ∧ k ≤ xs.length ∧ (xs == ys) = (xs.drop k == ys.drop k) ∧ wr = w.drewN nq) (fun i _ => xs.length - (intOf i).toNat)
    case atStart => exact ⟨0, 0, rfl, by omega, rfl, rfl⟩
    case round =>
      obtain ⟨k, nq, rfl, hk, hg, rfl⟩ := hrel
      have Hg := Lib.hid hg
      clear hg
      by_cases hlt : k < xs.length
      · obtain ⟨b, o, rfl, hbl, hc0⟩ := hx k hlt
        obtain ⟨b', o', rfl, hbl', hc1⟩ := hy k (by omega)
        have hd : (xs.drop k == ys.drop k) = ((xs.getD k 0 == ys.getD k 0) && (xs.drop (k + 1) == ys.drop (k + 1))) := by
          rw [drop_int hlt, drop_int (show k < ys.length by omega)]; rfl
        rw [hd] at Hg
        clear hd
        generalize xs.getD k 0 = x at hc0 Hg
        generalize ys.getD k 0 = y at hc1 Hg
        have hi0 : (0 : Int) ≤ (k : Int) := Int.natCast_nonneg _
        have hyl : k < ys.length := by omega
        by_cases hxy : x = y
        · subst hxy
          have hne : (x != x) = false := by simp
          go_wp2_with (go_quiet (fail))
          go_wp2
          go_roundw
          case rel => exact ⟨k + 1, _, by go_num, by omega, by rw [Hg.out]; simp, rfl⟩
          case measure => simp [intOf]; omega
        · have hne : (x != y) = true := by rw [bne_iff_ne]; exact hxy
          have hf : (x == y) = false := by rw [beq_eq_false_iff_ne]; exact hxy
          have Hf := Lib.hid hf
          clear hf hxy
          go_wp2_with (go_quiet (fail))
          go_wp2
          go_ret
          exact ⟨ret_bool (by rw [Hg.out, Hf.out]; rfl), _, World.drewN_drewN _ _ _⟩
      · go_wp2
        go_ret
        exact ⟨ret_bool (by rw [Hg.out, List.drop_eq_nil_of_le (by omega), List.drop_eq_nil_of_le (by omega)]; rfl), _, rfl⟩
  · have he' : ((xs.length : Int) != ys.length) = true := by rw [bne_iff_ne]; omega
    have hf : (xs == ys) = false := by
      rw [beq_eq_false_iff_ne]
      intro h; rw [h] at he; exact he rfl
    rw [hf]
    clear hf
    go_enter Try.func23, Try.ntmps23
    go_wp2
    go_ret
    exact ⟨rfl, 0, rfl⟩
end Go.Proofs.Ytloflnachpjlgaa.Aid
