/- Layer 5: the plain laws. Numbers and lists alone. -/
import Derived.Test.YthkpfeikpmcpeaaTabC
set_option linter.unusedVariables false
namespace Go.Proofs.Ythkpfeikpmcpeaa.Tab
open Go.RowKit Go.Proofs.Ythkpfeikpmcpeaa.Aid Go.Proofs.Ythkpfeikpmcpeaa.Sizes
set_option maxRecDepth 100000
theorem cntN_big (n : Int) (h : 512 < n) : cntN n = 16 := by
  unfold cntN tab
  simp only [List.countP_cons, List.countP_nil]
  repeat rw [if_pos (by simp; omega)]
/-- The first class at a number: where the sizes reach it. -/
theorem cntN_iff (n : Int) (k : Nat) (h : k < 16) : ((cntN n : Int) ≤ k) ↔ n ≤ tab.getD k 0 := by
  by_cases h0 : n < 0
  · have e : cntN n = 0 := by
      unfold cntN tab
      simp only [List.countP_cons, List.countP_nil]
      repeat rw [if_neg (by simp; omega)]
    have := (tab_bounds k h).1
    rw [e]
    omega
  · by_cases h1 : 512 < n
    · have := (tab_bounds k h).2
      rw [cntN_big n h1]
      omega
    · have key : (List.range 513).all (fun n => (List.range 16).all fun k => decide (((cntN (n : Nat) : Int) ≤ (k : Nat)) ↔ ((n : Nat) : Int) ≤ tab.getD k 0)) = true := by decide +kernel
      obtain ⟨m, rfl⟩ := Int.eq_ofNat_of_zero_le (show 0 ≤ n by omega)
      have := List.all_eq_true.1 (List.all_eq_true.1 key m (List.mem_range.2 (by omega))) k (List.mem_range.2 h)
      exact of_decide_eq_true this
theorem cntN_16 (n : Int) : cntN n = 16 ↔ 512 < n := by
  have h := cntN_iff n 15 (by omega)
  have e : tab.getD 15 0 = 512 := rfl
  rw [e] at h
  have := cntN_le n
  omega
theorem firstGo_range (n a : Int) : ∀ d k, firstGo n a d k = -1 ∨ 0 ≤ firstGo n a d k
  | 0, k => .inl rfl
  | d + 1, k => by
    rw [firstGo_step]
    split
    · exact .inr (Int.natCast_nonneg _)
    · exact firstGo_range n a d (k + 1)
theorem firstGo_one (n : Int) (c : Nat) (hc : c ≤ 16) (h : ∀ k : Nat, k < 16 → ((c : Int) ≤ k ↔ n ≤ tab.getD k 0)) : ∀ d k, d + k = 16 → k ≤ c → firstGo n 1 d k = if c = 16 then -1 else (c : Int)
  | 0, k, hd, hk => by
    rw [if_pos (by omega)]; rfl
  | d + 1, k, hd, hk => by
    rw [firstGo_step]
    by_cases he : k = c
    · subst he
      rw [if_pos ⟨(h k (by omega)).1 (by omega), Int.emod_one _⟩, if_neg (by omega)]
    · rw [if_neg (fun hh => by have := (h k (by omega)).2 hh.1; omega)]
      exact firstGo_one n c hc h d (k + 1) (by omega) (by omega)
/-- Class answers as the document does. -/
theorem class_first (n : Int) : classV n = firstV n 1 ∧ classB n = decide (0 ≤ firstV n 1) := by
  have h16 := cntN_16 n
  have hle := cntN_le n
  unfold classV classB firstV
  rw [firstGo_one n (cntN n) hle (fun k hk => cntN_iff n k hk) 16 0 rfl (Nat.zero_le _)]
  by_cases h : n < 0 ∨ 512 < n
  · rw [if_pos (by omega), if_pos h]
    exact ⟨rfl, by rw [decide_eq_false (by omega), decide_eq_false (by omega)]⟩
  · rw [if_neg (by omega), if_neg h, if_neg (by omega)]
    exact ⟨rfl, by rw [decide_eq_true (by omega), decide_eq_true (by omega)]⟩
theorem and_mod (y a : Int) (hy : 0 ≤ y ∧ y ≤ 512) (ha : isAl a = true) : Go.bits .and .i64 y (a - 1) = y % a := by
  unfold isAl at ha
  rw [Bool.and_eq_true] at ha
  obtain ⟨k, hk, rfl⟩ := (isPow_iff a).1 ha.2
  have hb := of_decide_eq_true ha.1
  obtain ⟨m, rfl⟩ := Int.eq_ofNat_of_zero_le hy.1
  have hp := Nat.two_pow_pos k
  rw [show (((2 ^ k : Nat) : Int) - 1) = ((2 ^ k - 1 : Nat) : Int) by omega, i64_and_nat m _ (by omega) (by omega), Nat.and_two_pow_sub_one_eq_mod]
  rfl
theorem alGo_first (n a : Int) (ha : isAl a = true) : ∀ d k, d + k = 16 → alGo (cntN n) a d k = firstGo n a d k
  | 0, k, _ => rfl
  | d + 1, k, hd => by
    have hb := tab_bounds k (by omega)
    rw [alGo_step, firstGo_step, and_mod _ a ⟨by omega, hb.2⟩ ha, alGo_first n a ha d (k + 1) (by omega)]
    have hi := cntN_iff n k (by omega)
    by_cases h : n ≤ tab.getD k 0 ∧ tab.getD k 0 % a = 0
    · rw [if_pos h, if_pos ⟨hi.2 h.1, h.2⟩]
    · rw [if_neg h, if_neg (fun hh => h ⟨hi.1 hh.1, hh.2⟩)]
/-- Aligned answers as the document does. -/
theorem aligned_first (n a : Int) : alignedV n a = (if isAl a = true then firstV n a else -1) := by
  have h16 := cntN_16 n
  unfold alignedV
  cases ha : isAl a
  · rw [if_neg (by simp), if_neg (by simp)]
  · rw [Bool.and_true, if_pos rfl]
    unfold firstV classB classV
    by_cases h : n < 0 ∨ cntN n = 16
    · rw [if_neg (by rw [decide_eq_false (fun h' => h' h)]; simp), if_pos (by omega)]
    · rw [if_pos (decide_eq_true h), if_neg h, if_neg (by omega)]
      exact alGo_first n a ha 16 0 rfl
theorem alGo_hit (f a : Int) : ∀ d k, alGo f a d k = -1 ∨ ∃ j : Nat, alGo f a d k = j ∧ j < k + d ∧ f ≤ j ∧ Go.bits .and .i64 (tab.getD j 0) (a - 1) = 0
  | 0, k => .inl rfl
  | d + 1, k => by
    rw [alGo_step]
    split
    · rename_i h
      exact .inr ⟨k, rfl, by omega, h.1, h.2⟩
    · rcases alGo_hit f a d (k + 1) with h | ⟨j, h1, h2, h3⟩
      · exact .inl h
      · exact .inr ⟨j, h1, by omega, h3⟩
/-- What an aligned class holds. -/
theorem aligned_hit (n a : Int) : alignedV n a = -1 ∧ alignedB n a = false ∨ alignedB n a = true ∧ 1 ≤ a ∧ a ≤ 4096 ∧ 0 ≤ alignedV n a ∧ n ≤ sizeV (alignedV n a) ∧ sizeV (alignedV n a) % a = 0 ∧ 16 ≤ sizeV (alignedV n a) ∧ sizeV (alignedV n a) ≤ 512 := by
  unfold alignedB
  by_cases h : alignedV n a = -1
  · exact .inl ⟨h, by rw [h]; rfl⟩
  · right
    unfold alignedV at *
    cases hc : classB n
    · rw [hc] at h; exact absurd rfl h
    · cases ha : isAl a
      · rw [ha, Bool.and_false] at h; exact absurd rfl h
      · rw [hc, ha] at h
        rw [Bool.and_true, if_pos rfl] at h ⊢
        rcases alGo_hit (classV n) a 16 0 with h' | ⟨j, h1, h2, h3, h4⟩
        · exact absurd h' h
        · rw [h1]
          have hcn : ¬ (n < 0 ∨ cntN n = 16) := by unfold classB at hc; exact of_decide_eq_true hc
          have hs : sizeV (j : Int) = tab.getD j 0 := by unfold sizeV; rw [if_pos (by omega), Int.toNat_natCast]
          have hb := tab_bounds j (by omega)
          have h3' : (cntN n : Int) ≤ j := by unfold classV at h3; rwa [if_neg hcn] at h3
          have hal : 1 ≤ a ∧ a ≤ 4096 := by
            unfold isAl at ha; rw [Bool.and_eq_true] at ha; exact of_decide_eq_true ha.1
          rw [hs]
          refine ⟨decide_eq_true (Int.natCast_nonneg _), hal.1, hal.2, Int.natCast_nonneg _, (cntN_iff n j (by omega)).1 h3', ?_, hb.1, hb.2⟩
          rw [← and_mod _ a ⟨by omega, hb.2⟩ ha]; exact h4
/-- What the class of a size wastes. -/
theorem waste (n : Int) (h : 0 ≤ n ∧ n ≤ 512) : classB n = true ∧ 0 ≤ classV n ∧ classV n < 16 ∧ n ≤ sizeV (classV n) ∧ sizeV (classV n) - n ≤ n / 4 + 16 ∧ (classV n = 0 ∨ sizeV (classV n - 1) < n) ∧ sizeV (classV n) % 16 = 0 ∧ 2 ≤ slotsV (classV n) ∧ slotsV (classV n) ≤ 64 ∧ slotsV (classV n) * sizeV (classV n) ≤ 1024 ∧ 1024 < (slotsV (classV n) + 1) * sizeV (classV n) := by
  have key : (List.range 513).all (fun m => decide (classB (m : Nat) = true ∧ 0 ≤ classV (m : Nat) ∧ classV (m : Nat) < 16 ∧ ((m : Nat) : Int) ≤ sizeV (classV (m : Nat)) ∧ sizeV (classV (m : Nat)) - (m : Nat) ≤ ((m : Nat) : Int) / 4 + 16 ∧ (classV (m : Nat) = 0 ∨ sizeV (classV (m : Nat) - 1) < (m : Nat)) ∧ sizeV (classV (m : Nat)) % 16 = 0 ∧ 2 ≤ slotsV (classV (m : Nat)) ∧ slotsV (classV (m : Nat)) ≤ 64 ∧ slotsV (classV (m : Nat)) * sizeV (classV (m : Nat)) ≤ 1024 ∧ 1024 < (slotsV (classV (m : Nat)) + 1) * sizeV (classV (m : Nat)))) = true := by decide +kernel
  obtain ⟨m, rfl⟩ := Int.eq_ofNat_of_zero_le h.1
  exact of_decide_eq_true (List.all_eq_true.1 key m (List.mem_range.2 (by omega)))
theorem waste_out (n : Int) (h : ¬ (0 ≤ n ∧ n ≤ 512)) : classV n = -1 ∧ classB n = false := by
  have h16 := cntN_16 n
  unfold classV classB
  have h' : n < 0 ∨ cntN n = 16 := by omega
  exact ⟨if_pos h', decide_eq_false (fun hh => hh h')⟩
end Go.Proofs.Ythkpfeikpmcpeaa.Tab
