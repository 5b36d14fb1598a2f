/- Layer 6: Class, Size, Slots, Aligned, Twin, Both; the document's Sizes, Place, Size and First over any list. -/
import Derived.Test.YthkpfeikpmcpeaaTbbC
set_option linter.unusedVariables false
namespace Go.Proofs.Ythkpfeikpmcpeaa.Tbb
open Go.RowKit Go.Proofs.Ythkpfeikpmcpeaa.Aid Go.Proofs.Ythkpfeikpmcpeaa.Tab
def cntL (v n : Int) : Nat := (tb v).countP (· < n)
def classT (v n : Int) : Int := if n < 0 ∨ cntL v n = (tb v).length then -1 else (cntL v n : Int)
def classTB (v n : Int) : Bool := decide (¬ (n < 0 ∨ cntL v n = (tb v).length))
set_option maxRecDepth 100000 in
theorem class_calls (v n : Int) (w : World) : Calls Try.prog 42 #[.int .i64 v, .int .i64 n] w fun e w' => e = .returned (.tuple #[.int .i64 (classT v n), .bool (classTB v n)]) ∧ Below w.heap.size w w' := by
  unfold classT classTB
  have S := Lib.hid (sizes_calls v)
  have hc : cntL v n ≤ (tb v).length := List.countP_le_length
  have B := Lib.hid (fun A c w' (h : Ints w' .i64 A (tb v)) => bsearch (tb v) A c n w' h (tb_sorted v) (tb_len v))
  have hl := tb_len v
  rw [show (tb v).countP (· < n) = cntL v n from rfl] at B
  generalize cntL v n = c at B hc ⊢
  generalize (tb v).contains n = d at B
  generalize tb v = xs at S B hc hl ⊢
  by_cases h0 : n < 0
  · rw [if_pos (.inl h0), decide_eq_false (fun h' => h' (.inl h0))]
    go_enter Try.func42, Try.ntmps42
    go_wp2_with (first
      | (go_at_call 45; refine (S.out _).mono ?_; rintro e w1 ⟨A, cc, rfl, hI, hb1⟩)
      | (go_at_call 52; refine (B.out _ _ _ hI).mono ?_; rintro e w2 ⟨rfl, hb2⟩))
    go_ret2
    exact ⟨rfl, below_then hb1 hb2⟩
  · by_cases hcl : c = xs.length
    · rw [if_pos (.inr hcl), decide_eq_false (fun h' => h' (.inr hcl))]
      have he : ((c : Int) == (xs.length : Int)) = true := by rw [hcl]; simp
      clear hcl
      go_enter Try.func42, Try.ntmps42
      go_wp2_with (first
        | (go_at_call 45; refine (S.out _).mono ?_; rintro e w1 ⟨A, cc, rfl, hI, hb1⟩)
        | (go_at_call 52; refine (B.out _ _ _ hI).mono ?_; rintro e w2 ⟨rfl, hb2⟩))
      go_ret2
      exact ⟨rfl, below_then hb1 hb2⟩
    · have hno : ¬ (n < 0 ∨ c = xs.length) := by omega
      rw [if_neg hno, decide_eq_true hno]
      have he : ((c : Int) == (xs.length : Int)) = false := by rw [beq_eq_false_iff_ne]; omega
      clear hcl hno
      go_enter Try.func42, Try.ntmps42
      go_wp2_with (first
        | (go_at_call 45; refine (S.out _).mono ?_; rintro e w1 ⟨A, cc, rfl, hI, hb1⟩)
        | (go_at_call 52; refine (B.out _ _ _ hI).mono ?_; rintro e w2 ⟨rfl, hb2⟩))
      go_ret2
      exact ⟨rfl, below_then hb1 hb2⟩
def sizeT (v c : Int) : Int := if 0 ≤ c ∧ c < (tb v).length then (tb v).getD c.toNat 0 else 0
set_option maxRecDepth 100000 in
theorem size_calls (v c : Int) (w : World) : Calls Try.prog 46 #[.int .i64 v, .int .i64 c] w fun e w' => e = .returned (.int .i64 (sizeT v c)) ∧ Below w.heap.size w w' := by
  unfold sizeT
  have S := Lib.hid (sizes_calls v)
  have hl := tb_len v
  generalize tb v = xs at S hl ⊢
  by_cases h : 0 ≤ c ∧ c < xs.length
  · rw [if_pos h]
    obtain ⟨k, rfl⟩ := Int.eq_ofNat_of_zero_le h.1
    rw [Int.toNat_natCast]
    have hk1 : (k : Int) < xs.length := h.2
    have hk0 : 0 ≤ (k : Int) := h.1
    have HG := Lib.hid (fun (w3 : World) (A : Option Addr) (h : Ints w3 .i64 A xs) => h k (by omega))
    generalize xs.getD k 0 = s at HG ⊢
    clear h
    go_enter Try.func46, Try.ntmps46
    go_wp2_with (first
      | (go_at_call 45; refine (S.out _).mono ?_; rintro e w1 ⟨A, cc, rfl, hI, hb1⟩; obtain ⟨b, o, rfl, hbl, hc0⟩ := HG.out _ _ hI))
    go_ret
    exact ⟨rfl, hb1⟩
  · rw [if_neg h]
    by_cases h0 : c < 0
    · clear h
      go_enter Try.func46, Try.ntmps46
      go_wp2_with (first
        | (go_at_call 45; refine (S.out _).mono ?_; rintro e w1 ⟨A, cc, rfl, hI, hb1⟩))
      go_ret
      exact ⟨rfl, hb1⟩
    · have h1 : (xs.length : Int) ≤ c := by omega
      clear h
      go_enter Try.func46, Try.ntmps46
      go_wp2_with (first
        | (go_at_call 45; refine (S.out _).mono ?_; rintro e w1 ⟨A, cc, rfl, hI, hb1⟩))
      go_ret
      exact ⟨rfl, hb1⟩
theorem sizeT_bounds (v c : Int) : sizeT v c = 0 ∨ 8 ≤ sizeT v c ∧ sizeT v c ≤ 512 := by
  unfold sizeT
  split
  · exact .inr (tb_bounds v _ (by omega))
  · exact .inl rfl
def slotsT (v c : Int) : Int := if sizeT v c = 0 then 0 else 1024 / sizeT v c
set_option maxRecDepth 100000 in
theorem slots_calls (v c : Int) (w : World) : Calls Try.prog 47 #[.int .i64 v, .int .i64 c] w fun e w' => e = .returned (.int .i64 (slotsT v c)) ∧ Below w.heap.size w w' := by
  unfold slotsT
  have S := Lib.hid (size_calls v c)
  have hs := sizeT_bounds v c
  generalize sizeT v c = s at S hs ⊢
  rcases hs with rfl | ⟨h1, h2⟩
  · go_enter Try.func47, Try.ntmps47
    go_wp2_with (first
      | (go_at_call 46; refine (S.out _).mono ?_; rintro e w1 ⟨rfl, hb1⟩))
    go_ret
    exact ⟨rfl, hb1⟩
  · rw [if_neg (by omega)]
    have h3 : (s == 0) = false := by rw [beq_eq_false_iff_ne]; omega
    go_enter Try.func47, Try.ntmps47
    go_wp2_with (first
      | (go_at_call 46; refine (S.out _).mono ?_; rintro e w1 ⟨rfl, hb1⟩))
    go_ret
    exact ⟨rfl, hb1⟩
end Go.Proofs.Ythkpfeikpmcpeaa.Tbb
