/- Layer 6: Sizes, and BinarySearch over any list. -/
import Derived.Test.YthkpfeikpmcpeaaTbbA
set_option linter.unusedVariables false
namespace Go.Proofs.Ythkpfeikpmcpeaa.Tbb
open Go.RowKit Go.Proofs.Ythkpfeikpmcpeaa.Aid Go.Proofs.Ythkpfeikpmcpeaa.Tab
theorem sizes_calls (v : Int) (w : World) : Calls Try.prog 45 #[.int .i64 v] w fun e w' => ∃ A c, e = .returned (.slice A (tb v).length c) ∧ Ints w' .i64 A (tb v) ∧ Below w.heap.size w w' := by
  by_cases h0 : v = 0
  · subst h0
    go_enter Try.func45, Try.ntmps45
    go_wp2_with (first
      | (go_at_call 20; refine (Tab.sizes_calls _).mono ?_; rintro e w1 ⟨v1, rfl, hown, hb1⟩))
    go_ret
    obtain ⟨A, c, rfl, hi⟩ := hown.shape
    exact ⟨A, c, rfl, hi, hb1⟩
  · have h0' : (v == 0) = false := by rw [beq_eq_false_iff_ne]; exact h0
    by_cases h1 : v = 1
    · subst h1
      go_enter Try.func45, Try.ntmps45
      go_wp2_with (first
        | (go_at_call 58; refine (table_calls _).mono ?_; rintro e w1 ⟨v1, rfl, hown, hb1⟩))
      go_ret
      obtain ⟨A, c, rfl, hi⟩ := hown.shape
      exact ⟨A, c, rfl, hi, hb1⟩
    · have h1' : (v == 1) = false := by rw [beq_eq_false_iff_ne]; exact h1
      have ht : tb v = [] := by unfold tb; rw [if_neg h0, if_neg h1]
      rw [ht]
      clear ht h0 h1
      go_enter Try.func45, Try.ntmps45
      go_wp2
      go_ret
      exact ⟨none, 0, rfl, fun k hk => absurd hk (by simp), Below.refl _ _⟩
theorem tb_len (v : Int) : (tb v).length ≤ 16 := by
  unfold tb; split
  · decide
  · split <;> decide
theorem tb_sorted (v : Int) : (tb v).Pairwise (· ≤ ·) := by
  unfold tb; split
  · decide
  · split <;> decide
theorem tb_bounds (v : Int) (k : Nat) (h : k < (tb v).length) : 8 ≤ (tb v).getD k 0 ∧ (tb v).getD k 0 ≤ 512 := by
  have key : ∀ l : List Int, (∀ x ∈ l, 8 ≤ x ∧ x ≤ 512) → k < l.length → 8 ≤ l.getD k 0 ∧ l.getD k 0 ≤ 512 := fun l hl hk => by
    rw [List.getD_eq_getElem?_getD, List.getElem?_eq_getElem hk]
    exact hl _ (List.getElem_mem hk)
  refine key _ ?_ h
  unfold tb; split
  · decide
  · split <;> decide
theorem cells_of {w : World} {b o : Nat} {xs : List Int} (h : Ints w .i64 (some ⟨b, o, none⟩) xs) : ∀ j, j < xs.length → w.cell? ⟨b, o + j, none⟩ = some (.int .i64 (xs.getD j 0)) := fun j hj => by
  obtain ⟨_, _, he, _, hc⟩ := h j hj
  injection he with he; injection he with he1 he2; subst he1; subst he2; exact hc
/-- BinarySearch over any sorted list. -/
theorem bsearch (xs : List Int) (A : Option Addr) (c : Nat) (n : Int) (w : World) (hx : Ints w .i64 A xs) (hs : xs.Pairwise (· ≤ ·)) (hl : xs.length ≤ 16) :
    Calls Try.prog 52 #[.slice A xs.length c, .int .i64 n] w fun e w' => e = .returned (.tuple #[.int .i64 ((xs.countP (· < n) : Nat) : Int), .bool (xs.contains n)]) ∧ Below w.heap.size w w' := by
  by_cases h0 : xs.length = 0
  · have hn := List.eq_nil_of_length_eq_zero h0
    subst hn
    refine (Try.slices_BinarySearch_int_empty A c n w).mono ?_
    rintro e w' ⟨rfl, rfl⟩
    exact ⟨rfl, Below.refl _ _⟩
  · obtain ⟨b, o, rfl, _, _⟩ := hx 0 (by omega)
    have h := Try.slices_BinarySearch_int b o xs.length c xs n w (Nat.le_refl _) (by omega) (cells_of hx) (by rw [List.take_length]; exact hs)
    rw [List.take_length] at h
    refine h.mono ?_
    rintro e w' ⟨rfl, q, rfl⟩
    exact ⟨rfl, below_drewN (Below.refl _ _) q⟩
end Go.Proofs.Ythkpfeikpmcpeaa.Tbb
