/- The contract of package bits' List. -/
import Derived.Test.YtknieebmcpgppaaDoorBitE
namespace Go.Proofs.YtknieebmcpgppaaDoor.Bit
open Go.RowKit Go.Proofs.YtknieebmcpgppaaDoor.Aid
theorem info_int : (Tryd.prog.info? 3).map (fun i => (i.zero, i.size, i.bytes)) = some (some (.int .i64 0), 1, 8) := by kernel_rfl
/-- The set bits below a place. -/
def bitsTo (l : List Bool) (n : Nat) : List Int := ((List.range n).filter fun j => l.getD j false).map fun (j : Nat) => (j : Int)
theorem bitsTo_succ (l : List Bool) (n : Nat) : bitsTo l (n + 1) = bitsTo l n ++ (if l.getD n false = true then [(n : Int)] else []) := by
  unfold bitsTo
  rw [List.range_succ, List.filter_append, List.map_append]
  congr 1
  by_cases h : l.getD n false = true
  · rw [if_pos h, List.filter_cons, if_pos h]; rfl
  · rw [if_neg h, List.filter_cons, if_neg h]; rfl
theorem bitsTo_none (l : List Bool) (n : Nat) : ∀ d, (∀ j, n ≤ j → j < n + d → l.getD j false = false) → bitsTo l (n + d) = bitsTo l n
  | 0, _ => rfl
  | d + 1, h => by
    rw [← Nat.add_assoc, bitsTo_succ, bitsTo_none l n d (fun j h1 h2 => h j h1 (by omega)), if_neg (by rw [h (n + d) (by omega) (by omega)]; decide), List.append_nil]
theorem bitsTo_len (l : List Bool) (n : Nat) : (bitsTo l n).length ≤ n := by
  unfold bitsTo
  rw [List.length_map]
  have := List.length_filter_le (fun j => l.getD j false) (List.range n)
  rwa [List.length_range] at this
theorem bitsTo_at (l : List Bool) (q k : Nat) (hq : q ≤ k) (hk : l.getD k false = true) (hn : ∀ j, q ≤ j → j < k → l.getD j false ≠ true) : bitsTo l (k + 1) = bitsTo l q ++ [(k : Int)] := by
  rw [bitsTo_succ, if_pos hk]
  obtain ⟨d, rfl⟩ : ∃ d, k = q + d := ⟨k - q, by omega⟩
  rw [bitsTo_none l q d (fun j h1 h2 => by have := hn j h1 h2; simpa using this)]
theorem bitsTo_end (l : List Bool) (q : Nat) (hq : q ≤ l.length) (hn : ∀ j, q ≤ j → j < l.length → l.getD j false ≠ true) : bitsTo l l.length = bitsTo l q := by
  obtain ⟨d, hd⟩ : ∃ d, l.length = q + d := ⟨l.length - q, by omega⟩
  rw [hd]
  exact bitsTo_none l q d (fun j h1 h2 => by have := hn j h1 (by omega); simpa using this)
/-- All set bits. -/
def listL (l : List Bool) : List Int := bitsTo l l.length
set_option maxHeartbeats 1000000 in
theorem list_calls (w : World) (p g c : Nat) (l : List Bool) (h : RowAt w p g c l) (hT : Tab w) :
    Calls Tryd.prog 19 #[.pointer (some ⟨p, 0, none⟩)] w fun e w' => ∃ v, e = .returned v ∧ Own w' w.heap.size 3 .i64 v (listL l) ∧ Below w.heap.size w w' := by
  have H := Lib.hid h
  have HT := Lib.hid hT
  have hs := h.small
  clear h hT
  go_enter Tryd.func19, Tryd.ntmps19
  go_wp2_with fail
  refine (first_walk _ p g c l 0 true H.out HT.out (by omega)).mono ?_
  rintro e w' ⟨rfl, rfl⟩
  rw [show (0 : Int).toNat = 0 from rfl]
  go_wp2_with fail
  go_loopg [3, 4] (l.length) (fun gh s3 s4 wr => ∃ q : Nat, q ≤ l.length ∧ gh = l.length - q ∧ s4 = .int .i64 (first l q true) ∧ Own wr w.heap.size 3 .i64 s3 (bitsTo l q) ∧ Below w.heap.size w wr)
  case atStart => exact ⟨0, by omega, by omega, rfl, Own.nil _ _ _ _, Below.refl _ _⟩
  case round =>
    obtain ⟨q, hq, rfl, rfl, hown, hb⟩ := hrel
    have HO := Lib.hid hown
    have HB := Lib.hid hb
    have hsz := hb.size
    clear hown hb
    rcases first_is l q true with ⟨h1, h2⟩ | ⟨k, h1, h2, h3, h4, h5⟩
    · have HE := Lib.hid (bitsTo_end l q hq h2)
      rw [h1]
      clear h1 h2
      go_wp2_with fail
      go_ret
      refine ⟨_, rfl, ?_, HB.out⟩
      unfold listL
      rw [HE.out]; exact HO.out
    · have HA := Lib.hid (bitsTo_at l q k h2 h4 h5)
      have hl := bitsTo_len l q
      rw [h1]
      clear h1 h4 h5
      have hk0 : (0 : Int) ≤ (k : Int) := by omega
      go_wp2_with (at_builtin; refine append_int rfl _ _ 30 rfl w.heap.size 3 .i64 8 Tryd.underlying30 info_int _ (bitsTo l q) rfl HO.out (k : Int) rfl (by omega) (by omega) hsz ?_)
      intro v1 w1 hown1 hb1 _
      have HO1 := Lib.hid hown1
      have HB1 := Lib.hid (HB.out.trans hb1)
      clear hown1 hb1
      go_wp2_with fail
      refine (first_walk _ p g c l _ true (H.out.below HB1.out) (HT.out.below HB1.out) (by omega)).mono ?_
      rintro e w' ⟨rfl, rfl⟩
      rw [show ((k : Int) + 1).toNat = k + 1 by omega]
      go_wp2_with fail
      go_roundg (l.length - (k + 1))
      case measure => omega
      case rel => exact ⟨k + 1, by omega, rfl, rfl, by rw [HA.out]; exact HO1.out, HB1.out⟩
end Go.Proofs.YtknieebmcpgppaaDoor.Bit
