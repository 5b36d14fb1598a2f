/- Layer 5: the contracts of tablea. -/
import Derived.Test.YthkpfeikpmcpeaaTabA
import Derived.Test.YthkpfeikpmcpeaaSizeO
set_option linter.unusedVariables false
namespace Go.Proofs.Ythkpfeikpmcpeaa.Tab
open Go.RowKit Go.Proofs.Ythkpfeikpmcpeaa.Aid
def tab : List Int := [16, 32, 48, 64, 80, 96, 112, 128, 160, 192, 224, 256, 320, 384, 448, 512]
def tabC : Array Value := #[.int .i64 16, .int .i64 32, .int .i64 48, .int .i64 64, .int .i64 80, .int .i64 96, .int .i64 112, .int .i64 128, .int .i64 160, .int .i64 192, .int .i64 224, .int .i64 256, .int .i64 320, .int .i64 384, .int .i64 448, .int .i64 512]
theorem tab_cells (w : World) (T : TypeId) : ∀ j, j < tab.length → (w.alloc (.cells tabC T)).cell? ⟨w.heap.size, 0 + j, none⟩ = some (.int .i64 (tab.getD j 0)) := by
  intro j hj
  have h16 : j < 16 := hj
  unfold tabC tab
  rcases (by omega : j = 0 ∨ j = 1 ∨ j = 2 ∨ j = 3 ∨ j = 4 ∨ j = 5 ∨ j = 6 ∨ j = 7 ∨ j = 8 ∨ j = 9 ∨ j = 10 ∨ j = 11 ∨ j = 12 ∨ j = 13 ∨ j = 14 ∨ j = 15) with rfl | rfl | rfl | rfl | rfl | rfl | rfl | rfl | rfl | rfl | rfl | rfl | rfl | rfl | rfl | rfl
  all_goals go_simp
  all_goals rfl
def cntN (n : Int) : Nat := tab.countP (· < n)
theorem cntN_le (n : Int) : cntN n ≤ 16 := List.countP_le_length
theorem bs_calls (n : Int) (w : World) : Calls Try.prog 52 #[.slice (some ⟨w.heap.size, 0, none⟩) 16 16, .int .i64 n] (w.alloc (.cells tabC 51)) fun e w' => e = .returned (.tuple #[.int .i64 (cntN n : Int), .bool (tab.contains n)]) ∧ Below w.heap.size w w' := by
  refine (Try.slices_BinarySearch_int w.heap.size 0 16 16 tab n _ (by decide) (by decide) (tab_cells w _) (by decide)).mono ?_
  rintro e w' ⟨rfl, q, rfl⟩
  exact ⟨rfl, below_drewN (((Below.refl _ _).alloc (Nat.le_refl _) _)) q⟩
def classV (n : Int) : Int := if n < 0 ∨ cntN n = 16 then -1 else (cntN n : Int)
def classB (n : Int) : Bool := decide (¬ (n < 0 ∨ cntN n = 16))
set_option maxRecDepth 100000 in
theorem class_calls (n : Int) (w : World) : Calls Try.prog 16 #[.int .i64 n] w fun e w' => e = .returned (.tuple #[.int .i64 (classV n), .bool (classB n)]) ∧ Below w.heap.size w w' := by
  unfold classV classB
  have B := Lib.hid (bs_calls n)
  have hc := cntN_le n
  generalize cntN n = c at B hc ⊢
  generalize tab.contains n = d at B
  by_cases h : n < 0 ∨ c = 16
  · rw [if_pos h, decide_eq_false (fun h' => h' h)]
    rcases h with h | h
    · go_enter Try.func16, Try.ntmps16
      go_wp2_with (first | (go_at_call 51; refine (table_calls _).mono ?_; rintro e w1 ⟨rfl, hb1⟩) | (go_at_call 52; refine (B.out _).mono ?_; rintro e w2 ⟨rfl, hb2⟩))
      go_ret2
      exact ⟨rfl, hb1.trans (hb2.mono hb1.size)⟩
    · subst h
      by_cases h0 : n < 0
      all_goals
        go_enter Try.func16, Try.ntmps16
        go_wp2_with (first | (go_at_call 51; refine (table_calls _).mono ?_; rintro e w1 ⟨rfl, hb1⟩) | (go_at_call 52; refine (B.out _).mono ?_; rintro e w2 ⟨rfl, hb2⟩))
        go_ret2
        exact ⟨rfl, hb1.trans (hb2.mono hb1.size)⟩
  · rw [if_neg h, decide_eq_true h]
    have h0 : 0 ≤ n := by omega
    have h1 : c < 16 := by omega
    have h2 : ((c : Int) == 16) = false := by rw [beq_eq_false_iff_ne]; omega
    clear h
    go_enter Try.func16, Try.ntmps16
    go_wp2_with (first | (go_at_call 51; refine (table_calls _).mono ?_; rintro e w1 ⟨rfl, hb1⟩) | (go_at_call 52; refine (B.out _).mono ?_; rintro e w2 ⟨rfl, hb2⟩))
    go_ret2
    exact ⟨rfl, hb1.trans (hb2.mono hb1.size)⟩
theorem table_agg (w : World) : Calls Try.prog 51 #[] w fun e w' => e = .returned (.agg tabC) ∧ Below w.heap.size w w' := table_calls w
theorem tab_idx (k : Nat) (h : k < 16) (w : World) : (Instr.index 51 (.agg tabC) (.int .i64 (k : Int))).run Try.prog w = .ok (.int .i64 (tab.getD k 0)) w := by
  rcases (by omega : k = 0 ∨ k = 1 ∨ k = 2 ∨ k = 3 ∨ k = 4 ∨ k = 5 ∨ k = 6 ∨ k = 7 ∨ k = 8 ∨ k = 9 ∨ k = 10 ∨ k = 11 ∨ k = 12 ∨ k = 13 ∨ k = 14 ∨ k = 15) with rfl | rfl | rfl | rfl | rfl | rfl | rfl | rfl | rfl | rfl | rfl | rfl | rfl | rfl | rfl | rfl
  all_goals kernel_rfl
def sizeV (c : Int) : Int := if 0 ≤ c ∧ c < 16 then tab.getD c.toNat 0 else 0
set_option maxRecDepth 100000 in
set_option maxHeartbeats 2000000 in
theorem size_calls (c : Int) (w : World) : Calls Try.prog 22 #[.int .i64 c] w fun e w' => e = .returned (.int .i64 (sizeV c)) ∧ Below w.heap.size w w' := by
  unfold sizeV
  by_cases h : 0 ≤ c ∧ c < 16
  · rw [if_pos h]
    obtain ⟨k, rfl⟩ := Int.eq_ofNat_of_zero_le h.1
    have h16 : k < 16 := by omega
    rw [Int.toNat_natCast]
    have hi := tab_idx k h16
    generalize tab.getD k 0 = s at hi ⊢
    clear h
    go_enter Try.func22, Try.ntmps22
    go_wp2_with (first | (go_at_call 51; refine (table_agg _).mono ?_; rintro e w1 ⟨rfl, hb1⟩))
    go_ret
    exact ⟨rfl, hb1⟩
  · rw [if_neg h]
    by_cases h0 : c < 0
    all_goals
      go_enter Try.func22, Try.ntmps22
      go_wp2
      go_ret
      exact ⟨rfl, Below.refl _ _⟩
def slotsV (c : Int) : Int := if sizeV c = 0 then 0 else 1024 / sizeV c
theorem tab_bounds (j : Nat) (h : j < 16) : 16 ≤ tab.getD j 0 ∧ tab.getD j 0 ≤ 512 := by
  rcases (by omega : j = 0 ∨ j = 1 ∨ j = 2 ∨ j = 3 ∨ j = 4 ∨ j = 5 ∨ j = 6 ∨ j = 7 ∨ j = 8 ∨ j = 9 ∨ j = 10 ∨ j = 11 ∨ j = 12 ∨ j = 13 ∨ j = 14 ∨ j = 15) with rfl | rfl | rfl | rfl | rfl | rfl | rfl | rfl | rfl | rfl | rfl | rfl | rfl | rfl | rfl | rfl
  all_goals decide
theorem sizeV_bounds (c : Int) : sizeV c = 0 ∨ 16 ≤ sizeV c ∧ sizeV c ≤ 512 := by
  unfold sizeV
  split
  · exact .inr (tab_bounds _ (by omega))
  · exact .inl rfl
set_option maxRecDepth 100000 in
theorem slots_calls (c : Int) (w : World) : Calls Try.prog 23 #[.int .i64 c] w fun e w' => e = .returned (.int .i64 (slotsV c)) ∧ Below w.heap.size w w' := by
  unfold slotsV
  have S := Lib.hid (size_calls c)
  have hs := sizeV_bounds c
  generalize sizeV c = s at S hs ⊢
  rcases hs with rfl | ⟨h1, h2⟩
  · go_enter Try.func23, Try.ntmps23
    go_wp2_with (first | (go_at_call 22; refine (S.out _).mono ?_; rintro e w1 ⟨rfl, hb1⟩))
    go_ret
    exact ⟨rfl, hb1⟩
  · rw [if_neg (by omega)]
    have h3 : (s == 0) = false := by rw [beq_eq_false_iff_ne]; omega
    go_enter Try.func23, Try.ntmps23
    go_wp2_with (first | (go_at_call 22; refine (S.out _).mono ?_; rintro e w1 ⟨rfl, hb1⟩))
    go_ret
    exact ⟨rfl, hb1⟩
end Go.Proofs.Ythkpfeikpmcpeaa.Tab
