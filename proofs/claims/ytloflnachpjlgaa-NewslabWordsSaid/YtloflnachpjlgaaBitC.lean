/- The contracts of package bits' New, Count, Words, Clone. -/
import Derived.Test.YtloflnachpjlgaaBitB
import Derived.Deep.RegionHeld3
namespace Go.Proofs.Ytloflnachpjlgaa.Bit
open Go.RowKit Go.Proofs.Ytloflnachpjlgaa.Aid
/-- A slice of words that the call has made, and nothing else. -/
def Fresh64 (xs : List Int) (w : World) (e : Ending) (w' : World) : Prop :=
  ∃ g c, e = .returned (.slice (some ⟨g, 0, none⟩) xs.length c) ∧ Row w' 22 g c (xs.map (.int .u64)) ∧ w.heap.size ≤ g ∧ Below w.heap.size w w'
theorem RowAt.ints {w : World} {p g c : Nat} {l : List Bool} (h : RowAt w p g c l) : Ints w .u64 (some ⟨g, 0, none⟩) (words l) := Row.ints h.row
theorem new_yes (w : World) (n : Nat) (h : n ≤ 4096) (hw : 0 < w.heap.size) :
    Calls Try.prog 53 #[.int .i64 n] w fun e w' => ∃ p g, e = .returned (.tuple #[.pointer (some ⟨p, 0, none⟩), .int .i64 0]) ∧ RowAt w' p g (nwords n) (List.replicate n false) ∧ w.heap.size ≤ p ∧ w.heap.size ≤ g ∧ Below w.heap.size w w' := by
  have h1 : (n : Int) ≤ 4096 := by omega
  have h2 : (0 : Int) ≤ (n : Int) := by omega
  have hm : nwords n ≤ 64 := by unfold nwords; omega
  have hi : ((nwords n : Nat) : Int) = ((n : Int) + 63) / 64 := by unfold nwords; omega
  have Hi := Lib.hid hi
  clear hi
  go_enter Try.func53, Try.ntmps53
  go_wp2_with (at_make; refine make_row _ rfl _ _ 91 rfl 22 Try.underlying91 (.int .u64 0) 8 rfl info_u64 _ _ (nwords n) (congrArg (Value.int .i64) (by rw [Hi.out]; omega)) (congrArg (Value.int .i64) (by rw [Hi.out]; omega)) (by omega) (by decide) ?_)
  intro w' hrow hlt hb
  have HR := Lib.hid hrow
  clear hrow
  go_wp2
  go_ret2
  refine ⟨_, _, rfl, ⟨by omega, hw, ?_, ?_, by simpa using h⟩, Nat.le_of_lt hlt, Nat.le_refl _, below_alloc hb (Nat.le_of_lt hlt) _⟩
  · have := Blk.new w' #[.int .i64 (n : Int), .slice (some ⟨w.heap.size, 0, none⟩) (nwords n) (nwords n)] 124
    rw [List.length_replicate]; exact this
  · have := HR.out.alloc (.cells #[.int .i64 (n : Int), .slice (some ⟨w.heap.size, 0, none⟩) (nwords n) (nwords n)] 124)
    rw [words_zero, List.map_replicate]; exact this
theorem new_no (w : World) (n : Int) (h : n < 0 ∨ 4096 < n) :
    Calls Try.prog 53 #[.int .i64 n] w fun e w' => e = .returned (.tuple #[.pointer none, .int .i64 11]) ∧ w = w' := by
  by_cases h0 : n < 0
  · clear h
    go_enter Try.func53, Try.ntmps53
    go_wp2
    go_ret2
    exact ⟨rfl, rfl⟩
  · have h1 : 0 ≤ n := by omega
    have h2 : 4096 < n := by omega
    clear h
    go_enter Try.func53, Try.ntmps53
    go_wp2
    go_ret2
    exact ⟨rfl, rfl⟩
theorem cnt_past (f : Nat → Bool) (n : Nat) : ∀ d, (∀ j, n ≤ j → f j = false) → cnt f (n + d) = cnt f n
  | 0, _ => rfl
  | d + 1, h => by rw [← Nat.add_assoc, cnt, cnt_past f n d h, h (n + d) (by omega)]; rfl
/-- How many bits of a row are set. -/
def cntTo (l : List Bool) (n : Nat) : Nat := cnt (fun j => l.getD j false) n
def cntL (l : List Bool) : Nat := cntTo l l.length
theorem cnt_words (l : List Bool) : cntTo l (64 * nwords l.length) = cntL l := by
  unfold cntL cntTo
  have h : 64 * nwords l.length = l.length + (64 * nwords l.length - l.length) := by unfold nwords; omega
  rw [h]
  exact cnt_past _ _ _ fun j hj => by simp [List.getD_eq_getElem?_getD, hj]
theorem cnt_word (l : List Bool) (k : Nat) : cntTo l (64 * (k + 1)) = cntTo l (64 * k) + cnt (wordN l k).testBit 64 := by
  unfold cntTo
  rw [Nat.mul_succ, cnt_add]
  congr 1
  exact cnt_congr 64 fun j hj => (wordN_bit l k j hj).symm
end Go.Proofs.Ytloflnachpjlgaa.Bit
