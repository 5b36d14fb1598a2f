/- Layer 6: the plain laws. Numbers and lists alone. -/
import Derived.Test.YthkpfeikpmcpeaaTbbG
set_option linter.unusedVariables false
namespace Go.Proofs.Ythkpfeikpmcpeaa.Tbb
open Go.RowKit Go.Proofs.Ythkpfeikpmcpeaa.Aid Go.Proofs.Ythkpfeikpmcpeaa.Tab
set_option maxRecDepth 100000
theorem tb_zero : tb 0 = tab := rfl
theorem tb_one : tb 1 = tabN := rfl
theorem tb_else (v : Int) (h0 : v ≠ 0) (h1 : v ≠ 1) : tb v = [] := by unfold tb; rw [if_neg h0, if_neg h1]
theorem cntL_big (v n : Int) (h : 512 < n) : cntL v n = (tb v).length := by
  unfold cntL
  rw [List.countP_eq_length]
  intro x hx
  obtain ⟨k, hk, rfl⟩ := List.getElem_of_mem hx
  have hb := (tb_bounds v k hk).2
  rw [List.getD_eq_getElem?_getD, List.getElem?_eq_getElem hk] at hb
  have hb' : (tb v)[k] ≤ 512 := hb
  simp only [decide_eq_true_eq]
  omega
theorem cntL_iff (v n : Int) (k : Nat) (h : k < (tb v).length) : ((cntL v n : Int) ≤ k) ↔ n ≤ (tb v).getD k 0 := by
  by_cases h0 : v = 0
  · subst h0; exact cntN_iff n k h
  · by_cases h1 : v = 1
    · subst h1
      have hb := tb_bounds 1 k h
      by_cases hn : 0 ≤ n
      · by_cases hn' : n ≤ 512
        · have key : (List.range 513).all (fun n => (List.range 12).all fun k => decide (((cntL 1 (n : Nat) : Int) ≤ (k : Nat)) ↔ ((n : Nat) : Int) ≤ (tb 1).getD k 0)) = true := by decide +kernel
          obtain ⟨m, rfl⟩ := Int.eq_ofNat_of_zero_le hn
          have := List.all_eq_true.1 (List.all_eq_true.1 key m (List.mem_range.2 (by omega))) k (List.mem_range.2 h)
          exact of_decide_eq_true this
        · have := cntL_big 1 n (by omega)
          omega
      · have e : cntL 1 n = 0 := by
          unfold cntL
          rw [List.countP_eq_zero]
          intro x hx
          obtain ⟨j, hj, rfl⟩ := List.getElem_of_mem hx
          have hb := (tb_bounds 1 j hj).1
          rw [List.getD_eq_getElem?_getD, List.getElem?_eq_getElem hj] at hb
          have hb' : 8 ≤ (tb 1)[j] := hb
          simp only [decide_eq_true_eq]
          omega
        rw [e]; omega
    · rw [tb_else v h0 h1] at h
      exact absurd h (by simp)
theorem fstGo_one (xs : List Int) (n : Int) (c : Nat) (hc : c ≤ xs.length) (h : ∀ k : Nat, k < xs.length → ((c : Int) ≤ k ↔ n ≤ xs.getD k 0)) : ∀ d k, d + k = xs.length → k ≤ c → fstGo xs n 1 d k = if c = xs.length then -1 else (c : Int)
  | 0, k, hd, hk => by
    rw [if_pos (by omega)]; rfl
  | d + 1, k, hd, hk => by
    rw [fstGo_step]
    by_cases he : k = c
    · subst he
      rw [if_pos ⟨(h k (by omega)).1 (by omega), Int.emod_one _⟩, if_neg (by omega)]
    · rw [if_neg (fun hh => by have := (h k (by omega)).2 hh.1; omega)]
      exact fstGo_one xs n c hc h d (k + 1) (by omega) (by omega)
/-- Class answers as the document does. -/
theorem class_first (v n : Int) : classT v n = fstV (tb v) n 1 ∧ classTB v n = decide (0 ≤ fstV (tb v) n 1) := by
  have hle : cntL v n ≤ (tb v).length := List.countP_le_length
  have hbig := cntL_big v n
  unfold classT classTB fstV
  rw [fstGo_one (tb v) n (cntL v n) hle (fun k hk => cntL_iff v n k hk) (tb v).length 0 rfl (Nat.zero_le _)]
  by_cases h : n < 0 ∨ 512 < n
  · rw [if_pos (by omega), if_pos h]
    exact ⟨rfl, by rw [decide_eq_false (by omega), decide_eq_false (by omega)]⟩
  · rw [if_neg h]
    by_cases hc : cntL v n = (tb v).length
    · rw [if_pos (.inr hc), if_pos hc]
      exact ⟨rfl, by rw [decide_eq_false (fun hh => hh (.inr hc)), decide_eq_false (by omega)]⟩
    · rw [if_neg (by omega), if_neg hc]
      exact ⟨rfl, by rw [decide_eq_true (by omega), decide_eq_true (by omega)]⟩
theorem alT_fst (v n a : Int) : ∀ d k, d + k = (tb v).length → alT (tb v) (cntL v n) a d k = fstGo (tb v) n a d k
  | 0, k, _ => rfl
  | d + 1, k, hd => by
    rw [alT_step, fstGo_step, alT_fst v n a d (k + 1) (by omega)]
    have hi := cntL_iff v n k (by omega)
    by_cases h : n ≤ (tb v).getD k 0 ∧ (tb v).getD k 0 % a = 0
    · rw [if_pos h, if_pos ⟨hi.2 h.1, h.2⟩]
    · rw [if_neg h, if_neg (fun hh => h ⟨hi.1 hh.1, hh.2⟩)]
theorem fstGo_none (v n a : Int) (h : cntL v n = (tb v).length) : ∀ d k, d + k = (tb v).length → fstGo (tb v) n a d k = -1
  | 0, k, _ => rfl
  | d + 1, k, hd => by
    rw [fstGo_step, if_neg (fun hh => by have := (cntL_iff v n k (by omega)).2 hh.1; omega)]
    exact fstGo_none v n a h d (k + 1) (by omega)
/-- Aligned answers as the document does. -/
theorem aligned_first (v n a : Int) : alignedT v n a = (if isAl a = true then fstV (tb v) n a else -1) := by
  have hbig := cntL_big v n
  unfold alignedT
  cases ha : isAl a
  · rw [if_neg (by simp), if_neg (by simp)]
  · rw [Bool.and_true, if_pos rfl]
    unfold fstV classTB classT
    by_cases h : n < 0 ∨ cntL v n = (tb v).length
    · rw [if_neg (by rw [decide_eq_false (fun h' => h' h)]; simp)]
      by_cases h2 : n < 0 ∨ 512 < n
      · rw [if_pos h2]
      · rw [if_neg h2, fstGo_none v n a (by omega) _ 0 rfl]
    · rw [if_pos (decide_eq_true h), if_neg h, if_neg (by omega)]
      exact alT_fst v n a _ 0 rfl
end Go.Proofs.Ythkpfeikpmcpeaa.Tbb
