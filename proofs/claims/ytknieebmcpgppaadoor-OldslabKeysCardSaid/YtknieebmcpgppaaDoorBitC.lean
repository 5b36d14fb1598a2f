/- The contracts of package bits' New, Count, Words, Clone. -/
import Derived.Test.YtknieebmcpgppaaDoorBitB
import Derived.Deep.RegionHeld3
namespace Go.Proofs.YtknieebmcpgppaaDoor.Bit
open Go.RowKit Go.Proofs.YtknieebmcpgppaaDoor.Aid
/-- A slice of words that the call has made, and nothing else. -/
def Fresh64 (xs : List Int) (w : World) (e : Ending) (w' : World) : Prop :=
  ∃ g c, e = .returned (.slice (some ⟨g, 0, none⟩) xs.length c) ∧ Row w' 44 g c (xs.map (.int .u64)) ∧ w.heap.size ≤ g ∧ Below w.heap.size w w'
theorem clone64 (w : World) (ad : Addr) (c n : Nat) (xs : List Int) (h : Ints w .u64 (some ad) xs) (hl : xs.length ≤ 1048576) (hn : xs.length = n) :
    Calls Tryd.prog 53 #[.slice (some ad) n c] w (Fresh64 xs w) := by
  subst hn
  have q := fun (w : World) (a : Option Addr) (n c n' c' : Nat) => Lib.run_eql_slice_nil (P := Tryd.prog) w _ _ a n c n' c' Tryd.underlying32
  go_enter Tryd.func53, Tryd.ntmps53
  go_wp2_with (at_builtin; refine append_all rfl _ _ 32 rfl w.heap.size 44 .u64 8 Tryd.underlying32 info_u64 _ [] rfl (Own.lit0 w w.heap.size (Nat.le_refl _) 44 .u64) xs ad c rfl (h.below ((Below.refl _ _).alloc (Nat.le_refl _) _)) (by simp; omega) (by simp; omega) (by simp) ?_)
  intro v' w' hown hb _ hn
  obtain ⟨g, c', rfl, hlen, hrow, hg⟩ := Row.of_own hown hn
  have hb' : Below w.heap.size w w' := ((Below.refl _ _).alloc (Nat.le_refl _) _).trans hb
  have HR := Lib.hid hrow
  clear hown hn hlen hrow h hb
  go_wp2
  go_ret
  exact ⟨g, c', ret_slice1 rfl, HR.out, hg, hb'⟩
theorem RowAt.ints {w : World} {p g c : Nat} {l : List Bool} (h : RowAt w p g c l) : Ints w .u64 (some ⟨g, 0, none⟩) (words l) := Row.ints h.row
theorem new_yes (w : World) (n : Nat) (h : n ≤ 4096) (hw : 0 < w.heap.size) :
    Calls Tryd.prog 11 #[.int .i64 n] w fun e w' => ∃ p g, e = .returned (.tuple #[.pointer (some ⟨p, 0, none⟩), .int .i64 0]) ∧ RowAt w' p g (nwords n) (List.replicate n false) ∧ w.heap.size ≤ p ∧ w.heap.size ≤ g ∧ Below w.heap.size w w' := by
  have h1 : (n : Int) ≤ 4096 := by omega
  have h2 : (0 : Int) ≤ (n : Int) := by omega
  have hm : nwords n ≤ 64 := by unfold nwords; omega
  have hi : ((nwords n : Nat) : Int) = ((n : Int) + 63) / 64 := by unfold nwords; omega
  have Hi := Lib.hid hi
  clear hi
  go_enter Tryd.func11, Tryd.ntmps11
  go_wp2_with (at_make; refine make_row _ rfl _ _ 32 rfl 44 Tryd.underlying32 (.int .u64 0) 8 rfl info_u64 _ _ (nwords n) (congrArg (Value.int .i64) (by rw [Hi.out]; omega)) (congrArg (Value.int .i64) (by rw [Hi.out]; omega)) (by omega) (by decide) ?_)
  intro w' hrow hlt hb
  have HR := Lib.hid hrow
  clear hrow
  go_wp2
  go_ret2
  refine ⟨_, _, rfl, ⟨by omega, hw, ?_, ?_, by simpa using h⟩, Nat.le_of_lt hlt, Nat.le_refl _, below_alloc hb (Nat.le_of_lt hlt) _⟩
  · have := Blk.new w' #[.int .i64 (n : Int), .slice (some ⟨w.heap.size, 0, none⟩) (nwords n) (nwords n)] 84
    rw [List.length_replicate]; exact this
  · have := HR.out.alloc (.cells #[.int .i64 (n : Int), .slice (some ⟨w.heap.size, 0, none⟩) (nwords n) (nwords n)] 84)
    rw [words_zero, List.map_replicate]; exact this
theorem new_no (w : World) (n : Int) (h : n < 0 ∨ 4096 < n) :
    Calls Tryd.prog 11 #[.int .i64 n] w fun e w' => e = .returned (.tuple #[.pointer none, .int .i64 11]) ∧ w = w' := by
  by_cases h0 : n < 0
  · clear h
    go_enter Tryd.func11, Tryd.ntmps11
    go_wp2
    go_ret2
    exact ⟨rfl, rfl⟩
  · have h1 : 0 ≤ n := by omega
    have h2 : 4096 < n := by omega
    clear h
    go_enter Tryd.func11, Tryd.ntmps11
    go_wp2
    go_ret2
    exact ⟨rfl, rfl⟩
theorem words_calls (w : World) (p g c : Nat) (l : List Bool) (h : RowAt w p g c l) :
    Calls Tryd.prog 14 #[.pointer (some ⟨p, 0, none⟩)] w (Fresh64 (words l) w) := by
  obtain ⟨c0, c1⟩ := h.facts
  have HI := Lib.hid h.ints
  have hs := h.small
  have hn : nwords l.length ≤ 64 := by unfold nwords; omega
  clear h
  go_enter Tryd.func14, Tryd.ntmps14
  go_wp2_with fail
  refine (clone64 _ _ c _ _ HI.out (by rw [words_len]; omega) (words_len l)).mono ?_
  rintro e w1 ⟨g1, d1, rfl, hr1, hg1, hb1⟩
  have HR := Lib.hid hr1
  clear hr1
  go_wp2_with fail
  go_ret
  exact ⟨g1, d1, rfl, HR.out, hg1, hb1⟩
theorem clone_calls (w : World) (p g c : Nat) (l : List Bool) (h : RowAt w p g c l) :
    Calls Tryd.prog 27 #[.pointer (some ⟨p, 0, none⟩)] w fun e w' => ∃ p' g' c', e = .returned (.pointer (some ⟨p', 0, none⟩)) ∧ RowAt w' p' g' c' l ∧ w.heap.size ≤ p' ∧ w.heap.size ≤ g' ∧ Below w.heap.size w w' := by
  obtain ⟨c0, c1⟩ := h.facts
  have hp := h.head.lt
  have HI := Lib.hid h.ints
  have hs := h.small
  have hn : nwords l.length ≤ 64 := by unfold nwords; omega
  have Hwl := Lib.hid (words_len l)
  clear h
  go_enter Tryd.func27, Tryd.ntmps27
  go_wp2_with fail
  go_region_held3 (fun w' => w'.cell? ⟨p, 0, none⟩ = some (.int .i64 l.length) ∧ w'.cell? ⟨p, 1, none⟩ = some (.slice (some ⟨g, 0, none⟩) (nwords l.length) c))
    (first | go_keep | exact ⟨((bcell hb1).1 _ _ hp).trans c0, ((bcell hb1).1 _ _ hp).trans c1⟩)
    ((go_at_call 53; refine (clone64 _ _ c _ (words l) (show Ints w.drew .u64 _ _ from HI.out) (by rw [Hwl.out]; omega) Hwl.out).mono ?_; rintro e w1 ⟨g1, d1, rfl, hr1, hg1, hb1'⟩; have hb1 := undrew hb1'; clear hb1'; have HR := Lib.hid hr1; clear hr1))
  go_wp2_with fail
  go_ret
  have hg1' : w.heap.size ≤ g1 := hg1
  refine ⟨_, g1, d1, rfl, ⟨?_, by omega, ?_, HR.out.alloc _, hs⟩, hb1.size, hg1', below_alloc hb1 hb1.size _⟩
  · have := HR.out.lt; omega
  · have := Blk.new w1 #[.int .i64 (l.length : Int), .slice (some ⟨g1, 0, none⟩) (words l).length d1] 84
    rw [← Hwl.out]; exact this
theorem cnt_past (f : Nat → Bool) (n : Nat) : ∀ d, (∀ j, n ≤ j → f j = false) → cnt f (n + d) = cnt f n
  | 0, _ => rfl
  | d + 1, h => by rw [← Nat.add_assoc, cnt, cnt_past f n d h, h (n + d) (by omega)]; rfl
/-- How many bits of a row are set. -/
def cntTo (l : List Bool) (n : Nat) : Nat := cnt (fun j => l.getD j false) n
def cntL (l : List Bool) : Nat := cntTo l l.length
theorem cnt_words (l : List Bool) : cntTo l (64 * nwords l.length) = cntL l := by
  unfold cntL cntTo
  have h : 64 * nwords l.length = l.length + (64 * nwords l.length - l.length) := by unfold nwords; omega
  rw [h]
  exact cnt_past _ _ _ fun j hj => by simp [List.getD_eq_getElem?_getD, hj]
theorem cnt_word (l : List Bool) (k : Nat) : cntTo l (64 * (k + 1)) = cntTo l (64 * k) + cnt (wordN l k).testBit 64 := by
  unfold cntTo
  rw [Nat.mul_succ, cnt_add]
  congr 1
  exact cnt_congr 64 fun j hj => (wordN_bit l k j hj).symm
theorem count_calls (w : World) (p g c : Nat) (l : List Bool) (h : RowAt w p g c l) :
    Calls Tryd.prog 17 #[.pointer (some ⟨p, 0, none⟩)] w fun e w' => e = .returned (.int .i64 (cntL l : Nat)) ∧ w = w' := by
  obtain ⟨c0, c1⟩ := h.facts
  have H := Lib.hid h
  have hs := h.small
  have hn : nwords l.length ≤ 64 := by unfold nwords; omega
  have HC := Lib.hid (cnt_words l)
  clear h
  generalize hm : nwords l.length = m at c1 hn HC
  have Hm := Lib.hid hm
  clear hm
  go_enter Tryd.func17, Tryd.ntmps17
  go_wp2_with fail
  go_loop [3, 11] (fun s i => ∃ k : Nat, k ≤ m ∧ i = .int .i64 k ∧ s = .int .i64 (cntTo l (64 * k) : Nat)) (fun _ i => m - (intOf i).toNat)
  case atStart => exact ⟨0, by omega, rfl, rfl⟩
  case round =>
    obtain ⟨k, hk, rfl, rfl⟩ := hrel
    by_cases hlt : k < m
    · have hc := H.out.word (k := k) (by rw [Hm.out]; exact hlt)
      unfold Bit.word at hc
      have hw := wordN_lt l k
      have HW := Lib.hid (cnt_word l k)
      have b1 : cntTo l (64 * k) ≤ 64 * k := cnt_le _ _
      have b2 := cnt_le (wordN l k).testBit 64
      generalize wordN l k = x at hc hw HW b2
      generalize cntTo l (64 * k) = s at HW b1
      go_wp2_with fail
      refine (ones_calls x _ hw).mono ?_
      rintro e w' ⟨rfl, rfl⟩
      generalize cnt x.testBit 64 = t at HW b2
      go_wp2_with fail
      go_round
      case rel => exact ⟨k + 1, by omega, by go_num, by rw [HW.out]; go_num⟩
      case measure => simp [intOf]; omega
    · obtain rfl : k = m := by omega
      go_wp2_with fail
      go_ret
      exact ⟨ret_int (by rw [HC.out]), rfl⟩
end Go.Proofs.YtknieebmcpgppaaDoor.Bit
