/- The contract of package bits' Run, and of List. -/
import Derived.Test.YtloflnachpjlgaaBitD
import Derived.Deep.LoopGhost
namespace Go.Proofs.Ytloflnachpjlgaa.Bit
open Go.RowKit Go.Proofs.Ytloflnachpjlgaa.Aid
def ClearAt (l : List Bool) (i n : Nat) : Prop := ∀ j, i ≤ j → j < i + n → l.getD j false = false
def clearB (l : List Bool) (i n : Nat) : Bool := (List.range n).all fun d => !l.getD (i + d) false
theorem clearB_iff (l : List Bool) (i n : Nat) : clearB l i n = true ↔ ClearAt l i n := by
  unfold clearB ClearAt
  rw [List.all_eq_true]
  constructor
  · intro h j h1 h2
    have := h (j - i) (by simp; omega)
    rw [show i + (j - i) = j by omega] at this
    simpa using this
  · intro h d hd
    have := h (i + d) (by omega) (by simp at hd; omega)
    simp only [this]; rfl
def runGo (l : List Bool) (n : Nat) : Nat → Nat → Int
  | 0, _ => -1
  | f + 1, i => if clearB l i n = true then (i : Int) else runGo l n f (i + 1)
/-- Where so many bits are clear. -/
def run (l : List Bool) (f : Nat) (n : Int) : Int := if n < 1 then -1 else runGo l n.toNat (l.length + 1 - n.toNat - f) f
def IsRun (l : List Bool) (f n : Nat) (r : Int) : Prop :=
  (r = -1 ∧ ∀ i, f ≤ i → i + n ≤ l.length → ¬ ClearAt l i n) ∨ (∃ k : Nat, r = k ∧ f ≤ k ∧ k + n ≤ l.length ∧ ClearAt l k n ∧ ∀ i, f ≤ i → i < k → ¬ ClearAt l i n)
theorem runGo_is (l : List Bool) (n : Nat) : ∀ fu i, (i + fu + n = l.length + 1 ∨ (fu = 0 ∧ l.length + 1 ≤ i + n)) → IsRun l i n (runGo l n fu i)
  | 0, i, h => .inl ⟨rfl, fun j h1 h2 => by omega⟩
  | fu + 1, i, h => by
    unfold runGo
    by_cases hc : clearB l i n = true
    · rw [if_pos hc]
      exact .inr ⟨i, rfl, Nat.le_refl _, by omega, (clearB_iff l i n).1 hc, fun j h1 h2 => by omega⟩
    · rw [if_neg hc]
      have hnc : ¬ ClearAt l i n := fun h => hc ((clearB_iff l i n).2 h)
      rcases runGo_is l n fu (i + 1) (by omega) with ⟨h1, h2⟩ | ⟨k, h1, h2, h3, h4, h5⟩
      · refine .inl ⟨h1, fun j h3 h4 => ?_⟩
        by_cases hj : j = i
        · subst hj; exact hnc
        · exact h2 j (by omega) h4
      · refine .inr ⟨k, h1, by omega, h3, h4, fun j h6 h7 => ?_⟩
        by_cases hj : j = i
        · subst hj; exact hnc
        · exact h5 j (by omega) h7
theorem isRun_eq {l : List Bool} {i n : Nat} {r r' : Int} (h : IsRun l i n r) (h' : IsRun l i n r') : r = r' := by
  rcases h with ⟨h1, h2⟩ | ⟨k, h1, h2, h3, h4, h5⟩ <;> rcases h' with ⟨g1, g2⟩ | ⟨k', g1, g2, g3, g4, g5⟩
  · omega
  · exact absurd g4 (h2 k' g2 g3)
  · exact absurd h4 (g2 k h2 h3)
  · rcases Nat.lt_trichotomy k k' with h | h | h
    · exact absurd h4 (g5 k h2 h)
    · omega
    · exact absurd g4 (h5 k' g2 h)
theorem run_eq {l : List Bool} {f : Nat} {n : Int} {r : Int} (hn : 1 ≤ n) (h : IsRun l f n.toNat r) : r = run l f n := by
  unfold run
  rw [if_neg (by omega)]
  exact isRun_eq h (runGo_is l _ _ _ (by omega))
end Go.Proofs.Ytloflnachpjlgaa.Bit
