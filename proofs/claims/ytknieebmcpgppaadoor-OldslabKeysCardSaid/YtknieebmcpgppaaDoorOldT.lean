/- Layer 5 and 6 as the slabs use them: the old layout's sizes, slots, and the document's sizes. (Lines of TabA, TabB, TabX, TbbE, for a seat without the rest of these layers.) -/
import Derived.Test.YtknieebmcpgppaaDoorProg
import Derived.Test.YtknieebmcpgppaaDoorAidMem
import Derived.Outline
set_option linter.unusedVariables false
namespace Go.Proofs.YtknieebmcpgppaaDoor.Tab
open Go.RowKit Go.Proofs.YtknieebmcpgppaaDoor.Aid
set_option maxRecDepth 100000 in
set_option maxHeartbeats 8000000 in
theorem table_calls (w : World) : Calls Tryd.prog 71 #[] w fun e w' => e = .returned (.agg #[.int .i64 16, .int .i64 32, .int .i64 48, .int .i64 64, .int .i64 80, .int .i64 96, .int .i64 112, .int .i64 128, .int .i64 160, .int .i64 192, .int .i64 224, .int .i64 256, .int .i64 320, .int .i64 384, .int .i64 448, .int .i64 512]) ∧ Below w.heap.size w w' := by
  go_enter Tryd.func71, Tryd.ntmps71
  go_wp2
  refine wp_loop_rounds 9 ?_
  rw [rounds_succ]
  go_wp2
  rw [rounds_succ]
  go_wp2
  rw [rounds_succ]
  go_wp2
  rw [rounds_succ]
  go_wp2
  rw [rounds_succ]
  go_wp2
  rw [rounds_succ]
  go_wp2
  rw [rounds_succ]
  go_wp2
  rw [rounds_succ]
  go_wp2
  rw [rounds_succ]
  go_wp2
  refine wp_loop_rounds 3 ?_
  rw [rounds_succ]
  go_wp2
  refine wp_loop_rounds 5 ?_
  rw [rounds_succ]
  go_wp2
  rw [rounds_succ]
  go_wp2
  rw [rounds_succ]
  go_wp2
  rw [rounds_succ]
  go_wp2
  rw [rounds_succ]
  go_wp2
  rw [rounds_succ]
  go_wp2
  refine wp_loop_rounds 5 ?_
  rw [rounds_succ]
  go_wp2
  rw [rounds_succ]
  go_wp2
  rw [rounds_succ]
  go_wp2
  rw [rounds_succ]
  go_wp2
  rw [rounds_succ]
  go_wp2
  rw [rounds_succ]
  go_wp2
  exact bodyPost_ret (v := .agg #[.int .i64 16, .int .i64 32, .int .i64 48, .int .i64 64, .int .i64 80, .int .i64 96, .int .i64 112, .int .i64 128, .int .i64 160, .int .i64 192, .int .i64 224, .int .i64 256, .int .i64 320, .int .i64 384, .int .i64 448, .int .i64 512]) (by simp [results, Tryd.results71, go_sem]) rfl ⟨rfl, ((Below.refl _ _).alloc (Nat.le_refl _) _).alloc (by simp) _⟩
def tab : List Int := [16, 32, 48, 64, 80, 96, 112, 128, 160, 192, 224, 256, 320, 384, 448, 512]
def tabC : Array Value := #[.int .i64 16, .int .i64 32, .int .i64 48, .int .i64 64, .int .i64 80, .int .i64 96, .int .i64 112, .int .i64 128, .int .i64 160, .int .i64 192, .int .i64 224, .int .i64 256, .int .i64 320, .int .i64 384, .int .i64 448, .int .i64 512]
theorem tab_cells (w : World) (T : TypeId) : ∀ j, j < tab.length → (w.alloc (.cells tabC T)).cell? ⟨w.heap.size, 0 + j, none⟩ = some (.int .i64 (tab.getD j 0)) := by
  intro j hj
  have h16 : j < 16 := hj
  unfold tabC tab
  rcases (by omega : j = 0 ∨ j = 1 ∨ j = 2 ∨ j = 3 ∨ j = 4 ∨ j = 5 ∨ j = 6 ∨ j = 7 ∨ j = 8 ∨ j = 9 ∨ j = 10 ∨ j = 11 ∨ j = 12 ∨ j = 13 ∨ j = 14 ∨ j = 15) with rfl | rfl | rfl | rfl | rfl | rfl | rfl | rfl | rfl | rfl | rfl | rfl | rfl | rfl | rfl | rfl
  all_goals go_simp
  all_goals rfl
theorem table_agg (w : World) : Calls Tryd.prog 71 #[] w fun e w' => e = .returned (.agg tabC) ∧ Below w.heap.size w w' := table_calls w
theorem tab_idx (k : Nat) (h : k < 16) (w : World) : (Instr.index 100 (.agg tabC) (.int .i64 (k : Int))).run Tryd.prog w = .ok (.int .i64 (tab.getD k 0)) w := by
  rcases (by omega : k = 0 ∨ k = 1 ∨ k = 2 ∨ k = 3 ∨ k = 4 ∨ k = 5 ∨ k = 6 ∨ k = 7 ∨ k = 8 ∨ k = 9 ∨ k = 10 ∨ k = 11 ∨ k = 12 ∨ k = 13 ∨ k = 14 ∨ k = 15) with rfl | rfl | rfl | rfl | rfl | rfl | rfl | rfl | rfl | rfl | rfl | rfl | rfl | rfl | rfl | rfl
  all_goals kernel_rfl
def sizeV (c : Int) : Int := if 0 ≤ c ∧ c < 16 then tab.getD c.toNat 0 else 0
set_option maxRecDepth 100000 in
set_option maxHeartbeats 2000000 in
theorem size_calls (c : Int) (w : World) : Calls Tryd.prog 60 #[.int .i64 c] w fun e w' => e = .returned (.int .i64 (sizeV c)) ∧ Below w.heap.size w w' := by
  unfold sizeV
  by_cases h : 0 ≤ c ∧ c < 16
  · rw [if_pos h]
    obtain ⟨k, rfl⟩ := Int.eq_ofNat_of_zero_le h.1
    have h16 : k < 16 := by omega
    rw [Int.toNat_natCast]
    have hi := tab_idx k h16
    generalize tab.getD k 0 = s at hi ⊢
    clear h
    go_enter Tryd.func60, Tryd.ntmps60
    go_wp2_with (first | (go_at_call 71; refine (table_agg _).mono ?_; rintro e w1 ⟨rfl, hb1⟩))
    go_ret
    exact ⟨rfl, hb1⟩
  · rw [if_neg h]
    by_cases h0 : c < 0
    all_goals
      go_enter Tryd.func60, Tryd.ntmps60
      go_wp2
      go_ret
      exact ⟨rfl, Below.refl _ _⟩
def slotsV (c : Int) : Int := if sizeV c = 0 then 0 else 1024 / sizeV c
theorem tab_bounds (j : Nat) (h : j < 16) : 16 ≤ tab.getD j 0 ∧ tab.getD j 0 ≤ 512 := by
  rcases (by omega : j = 0 ∨ j = 1 ∨ j = 2 ∨ j = 3 ∨ j = 4 ∨ j = 5 ∨ j = 6 ∨ j = 7 ∨ j = 8 ∨ j = 9 ∨ j = 10 ∨ j = 11 ∨ j = 12 ∨ j = 13 ∨ j = 14 ∨ j = 15) with rfl | rfl | rfl | rfl | rfl | rfl | rfl | rfl | rfl | rfl | rfl | rfl | rfl | rfl | rfl | rfl
  all_goals decide
theorem sizeV_bounds (c : Int) : sizeV c = 0 ∨ 16 ≤ sizeV c ∧ sizeV c ≤ 512 := by
  unfold sizeV
  split
  · exact .inr (tab_bounds _ (by omega))
  · exact .inl rfl
set_option maxRecDepth 100000 in
theorem slots_calls (c : Int) (w : World) : Calls Tryd.prog 59 #[.int .i64 c] w fun e w' => e = .returned (.int .i64 (slotsV c)) ∧ Below w.heap.size w w' := by
  unfold slotsV
  have S := Lib.hid (size_calls c)
  have hs := sizeV_bounds c
  generalize sizeV c = s at S hs ⊢
  rcases hs with rfl | ⟨h1, h2⟩
  · go_enter Tryd.func59, Tryd.ntmps59
    go_wp2_with (first | (go_at_call 60; refine (S.out _).mono ?_; rintro e w1 ⟨rfl, hb1⟩))
    go_ret
    exact ⟨rfl, hb1⟩
  · rw [if_neg (by omega)]
    have h3 : (s == 0) = false := by rw [beq_eq_false_iff_ne]; omega
    go_enter Tryd.func59, Tryd.ntmps59
    go_wp2_with (first | (go_at_call 60; refine (S.out _).mono ?_; rintro e w1 ⟨rfl, hb1⟩))
    go_ret
    exact ⟨rfl, hb1⟩
set_option maxRecDepth 100000 in
theorem rsizes_calls (w : World) : Calls Tryd.prog 73 #[] w fun e w' => ∃ T, e = .returned (.slice (some ⟨w.heap.size, 0, none⟩) 16 16) ∧ w' = w.alloc (.cells tabC T) := by
  go_enter Tryd.func73, Tryd.ntmps73
  go_wp2
  go_ret
  exact ⟨_, rfl, rfl⟩
theorem tab_Ints (w : World) (T : TypeId) : Ints (w.alloc (.cells tabC T)) .i64 (some ⟨w.heap.size, 0, none⟩) tab := fun k hk =>
  ⟨w.heap.size, 0, rfl, by simp, tab_cells w T k hk⟩
theorem rsizes_ints (w : World) : Calls Tryd.prog 73 #[] w fun e w' => ∃ b o, e = .returned (.slice (some ⟨b, o, none⟩) 16 16) ∧ b < w'.heap.size ∧ Ints w' .i64 (some ⟨b, o, none⟩) tab ∧ Below w.heap.size w w' := by
  refine (rsizes_calls w).mono ?_
  rintro e w' ⟨T, rfl, rfl⟩
  exact ⟨_, _, rfl, by simp, tab_Ints w T, (Below.refl _ _).alloc (Nat.le_refl _) _⟩
def tabN : List Int := [8, 16, 24, 32, 48, 64, 96, 128, 192, 256, 384, 512]
def tb (v : Int) : List Int := if v = 0 then tab else if v = 1 then tabN else []
theorem tb_len (v : Int) : (tb v).length ≤ 16 := by
  unfold tb; split
  · decide
  · split <;> decide
def sizeT (v c : Int) : Int := if 0 ≤ c ∧ c < (tb v).length then (tb v).getD c.toNat 0 else 0
def tabNC : Array Value := #[.int .i64 8, .int .i64 16, .int .i64 24, .int .i64 32, .int .i64 48, .int .i64 64, .int .i64 96, .int .i64 128, .int .i64 192, .int .i64 256, .int .i64 384, .int .i64 512]
theorem tabN_Ints (w : World) (T : TypeId) : Ints (w.alloc (.cells tabNC T)) .i64 (some ⟨w.heap.size, 0, none⟩) tabN := fun k hk => by
  refine ⟨w.heap.size, 0, rfl, by simp, ?_⟩
  have h16 : k < 12 := hk
  unfold tabNC tabN
  rcases (by omega : k = 0 ∨ k = 1 ∨ k = 2 ∨ k = 3 ∨ k = 4 ∨ k = 5 ∨ k = 6 ∨ k = 7 ∨ k = 8 ∨ k = 9 ∨ k = 10 ∨ k = 11) with rfl | rfl | rfl | rfl | rfl | rfl | rfl | rfl | rfl | rfl | rfl | rfl
  all_goals go_simp
  all_goals rfl
theorem r6sizes_calls (v : Int) (w : World) : Calls Tryd.prog 72 #[.int .i64 v] w fun e w' => ∃ A c, e = .returned (.slice A (tb v).length c) ∧ Ints w' .i64 A (tb v) ∧ Below w.heap.size w w' := by
  by_cases h0 : v = 0
  · subst h0
    go_enter Tryd.func72, Tryd.ntmps72
    go_wp2_with (first
      | (go_at_call 73; refine (rsizes_ints _).mono ?_; rintro e w1 ⟨b, o, rfl, hbl, hi, hb1⟩))
    go_ret
    exact ⟨_, _, rfl, hi, hb1⟩
  · have h0' : (v == 0) = false := by rw [beq_eq_false_iff_ne]; exact h0
    by_cases h1 : v = 1
    · subst h1
      go_enter Tryd.func72, Tryd.ntmps72
      go_wp2
      go_ret
      exact ⟨_, _, rfl, tabN_Ints w _, (Below.refl _ _).alloc (Nat.le_refl _) _⟩
    · have h1' : (v == 1) = false := by rw [beq_eq_false_iff_ne]; exact h1
      have ht : tb v = [] := by unfold tb; rw [if_neg h0, if_neg h1]
      rw [ht]
      clear ht h0 h1
      go_enter Tryd.func72, Tryd.ntmps72
      go_wp2
      go_ret
      exact ⟨none, 0, rfl, fun k hk => absurd hk (by simp), Below.refl _ _⟩
set_option maxRecDepth 100000 in
theorem rsize_calls (v c : Int) (w : World) : Calls Tryd.prog 61 #[.int .i64 v, .int .i64 c] w fun e w' => e = .returned (.int .i64 (sizeT v c)) ∧ Below w.heap.size w w' := by
  unfold sizeT
  have S := Lib.hid (r6sizes_calls v)
  have hl := tb_len v
  generalize tb v = xs at S hl ⊢
  by_cases h : 0 ≤ c ∧ c < xs.length
  · rw [if_pos h]
    obtain ⟨k, rfl⟩ := Int.eq_ofNat_of_zero_le h.1
    rw [Int.toNat_natCast]
    have hk1 : (k : Int) < xs.length := h.2
    have hk0 : 0 ≤ (k : Int) := h.1
    have HG := Lib.hid (fun (w3 : World) (A : Option Addr) (h : Ints w3 .i64 A xs) => h k (by omega))
    generalize xs.getD k 0 = s at HG ⊢
    clear h
    go_enter Tryd.func61, Tryd.ntmps61
    go_wp2_with (first
      | (go_at_call 72; refine (S.out _).mono ?_; rintro e w1 ⟨A, cc, rfl, hI, hb1⟩; obtain ⟨b, o, rfl, hbl, hc0⟩ := HG.out _ _ hI))
    go_ret
    exact ⟨rfl, hb1⟩
  · rw [if_neg h]
    by_cases h0 : c < 0
    · clear h
      go_enter Tryd.func61, Tryd.ntmps61
      go_wp2_with (first
        | (go_at_call 72; refine (S.out _).mono ?_; rintro e w1 ⟨A, cc, rfl, hI, hb1⟩))
      go_ret
      exact ⟨rfl, hb1⟩
    · have h1 : (xs.length : Int) ≤ c := by omega
      clear h
      go_enter Tryd.func61, Tryd.ntmps61
      go_wp2_with (first
        | (go_at_call 72; refine (S.out _).mono ?_; rintro e w1 ⟨A, cc, rfl, hI, hb1⟩))
      go_ret
      exact ⟨rfl, hb1⟩
end Go.Proofs.YtknieebmcpgppaaDoor.Tab
