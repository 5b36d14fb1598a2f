/- Plain words for the document's Give: which pages tell a span's beginning. -/
import Derived.Test.YtldlogmjkbhomaaSpaQ
namespace Go.Proofs.Ytldlogmjkbhomaa.Spa
open Go.RowKit Go.Proofs.Ytldlogmjkbhomaa.Aid
theorem give_start {P : Nat} {xs : List Rn} (h : OkS P xs) {i : Nat} (hi : i < P) :
    ∃ v : Int, (pagesOf xs)[i]? = some v ∧ 0 ≤ v ∧ v ≤ 4097 ∧ ((v = (i : Int) + 1 ∧ ∃ k, findT xs (i : Int) = some k) ∨ (v ≠ (i : Int) + 1 ∧ findT xs (i : Int) = none)) := by
  obtain ⟨k, hk, h1, h2⟩ := has_page xs h.ch i (Nat.zero_le _) hi
  have hpn := pos_n h hk
  have h4 := h.n
  refine ⟨_, pages_at h hk h1 h2, ?_, ?_, ?_⟩
  · unfold valR; split <;> omega
  · unfold valR; split <;> omega
  · rw [findT_at h hk h1 h2]
    unfold valR
    by_cases ht : (xs.getD k r0).t = true
    · by_cases hp : (xs.getD k r0).p = i
      · left
        rw [if_pos ht, if_pos ⟨ht, hp⟩]
        exact ⟨by omega, k, rfl⟩
      · right
        rw [if_pos ht, if_neg (fun e => hp e.2)]
        exact ⟨by omega, rfl⟩
    · right
      rw [if_neg ht, if_neg (fun e => ht e.1)]
      exact ⟨by omega, rfl⟩
theorem give_run {P : Nat} {xs : List Rn} (h : OkS P xs) {i k : Nat} (hf : findT xs (i : Int) = some k) :
    (xs.getD k r0).p = i ∧ 1 ≤ (xs.getD k r0).n ∧ i + (xs.getD k r0).n ≤ P ∧ (∀ j, i ≤ j → j < i + (xs.getD k r0).n → (pagesOf xs)[j]? = some ((i : Int) + 1)) ∧ (i + (xs.getD k r0).n < P → ∃ v : Int, (pagesOf xs)[i + (xs.getD k r0).n]? = some v ∧ v ≠ (i : Int) + 1) := by
  obtain ⟨hk, ht, hp⟩ := findT_some hf
  have hp' : (xs.getD k r0).p = i := by omega
  have hpn := pos_n h hk
  refine ⟨hp', hpn.1, by omega, fun j h1 h2 => ?_, fun hlt => ?_⟩
  · rw [pages_at h hk (by omega) (by omega)]
    unfold valR
    rw [if_pos ht, hp']
    rfl
  · obtain ⟨k2, hk2, h1, h2⟩ := has_page xs h.ch _ (Nat.zero_le _) hlt
    have hpn2 := pos_n h hk2
    refine ⟨_, pages_at h hk2 h1 h2, ?_⟩
    unfold valR
    by_cases e : k2 = k
    · subst e; omega
    · split
      · rcases Nat.lt_or_gt_of_ne e with e2 | e2
        · have := mono_p h e2 hk; omega
        · have := mono_p h e2 hk2; omega
      · omega
end Go.Proofs.Ytldlogmjkbhomaa.Spa
