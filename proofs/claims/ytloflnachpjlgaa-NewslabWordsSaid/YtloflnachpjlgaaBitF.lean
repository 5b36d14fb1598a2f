/- The contract of package bits' List. -/
import Derived.Test.YtloflnachpjlgaaBitE
namespace Go.Proofs.Ytloflnachpjlgaa.Bit
open Go.RowKit Go.Proofs.Ytloflnachpjlgaa.Aid
theorem info_int : (Try.prog.info? 3).map (fun i => (i.zero, i.size, i.bytes)) = some (some (.int .i64 0), 1, 8) := by kernel_rfl
/-- The set bits below a place. -/
def bitsTo (l : List Bool) (n : Nat) : List Int := ((List.range n).filter fun j => l.getD j false).map fun (j : Nat) => (j : Int)
theorem bitsTo_succ (l : List Bool) (n : Nat) : bitsTo l (n + 1) = bitsTo l n ++ (if l.getD n false = true then [(n : Int)] else []) := by
  unfold bitsTo
  rw [List.range_succ, List.filter_append, List.map_append]
  congr 1
  by_cases h : l.getD n false = true
  · rw [if_pos h, List.filter_cons, if_pos h]; rfl
  · rw [if_neg h, List.filter_cons, if_neg h]; rfl
theorem bitsTo_none (l : List Bool) (n : Nat) : ∀ d, (∀ j, n ≤ j → j < n + d → l.getD j false = false) → bitsTo l (n + d) = bitsTo l n
  | 0, _ => rfl
  | d + 1, h => by
    rw [← Nat.add_assoc, bitsTo_succ, bitsTo_none l n d (fun j h1 h2 => h j h1 (by omega)), if_neg (by rw [h (n + d) (by omega) (by omega)]; decide), List.append_nil]
theorem bitsTo_len (l : List Bool) (n : Nat) : (bitsTo l n).length ≤ n := by
  unfold bitsTo
  rw [List.length_map]
  have := List.length_filter_le (fun j => l.getD j false) (List.range n)
  rwa [List.length_range] at this
theorem bitsTo_at (l : List Bool) (q k : Nat) (hq : q ≤ k) (hk : l.getD k false = true) (hn : ∀ j, q ≤ j → j < k → l.getD j false ≠ true) : bitsTo l (k + 1) = bitsTo l q ++ [(k : Int)] := by
  rw [bitsTo_succ, if_pos hk]
  obtain ⟨d, rfl⟩ : ∃ d, k = q + d := ⟨k - q, by omega⟩
  rw [bitsTo_none l q d (fun j h1 h2 => by have := hn j h1 h2; simpa using this)]
theorem bitsTo_end (l : List Bool) (q : Nat) (hq : q ≤ l.length) (hn : ∀ j, q ≤ j → j < l.length → l.getD j false ≠ true) : bitsTo l l.length = bitsTo l q := by
  obtain ⟨d, hd⟩ : ∃ d, l.length = q + d := ⟨l.length - q, by omega⟩
  rw [hd]
  exact bitsTo_none l q d (fun j h1 h2 => by have := hn j h1 (by omega); simpa using this)
/-- All set bits. -/
def listL (l : List Bool) : List Int := bitsTo l l.length
end Go.Proofs.Ytloflnachpjlgaa.Bit
