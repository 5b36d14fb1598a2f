/- Layer 5: alive, and the laws TableaWaste and TableaAligns, walked. -/
import Derived.Test.YthkpfeikpmcpeaaTabP
set_option linter.unusedVariables false
namespace Go.Proofs.Ythkpfeikpmcpeaa.Tab
open Go.RowKit Go.Proofs.Ythkpfeikpmcpeaa.Aid
theorem v_class (w : World) : Calls Try.prog 16 #[.int .i64 130] w fun e w' => e = .returned (.tuple #[.int .i64 8, .bool true]) ∧ Below w.heap.size w w' := by
  have h := class_calls 130 w
  rwa [show classV 130 = 8 from by decide +kernel, show classB 130 = true from by decide +kernel] at h
theorem v_aligned (w : World) : Calls Try.prog 18 #[.int .i64 130, .int .i64 64] w fun e w' => e = .returned (.tuple #[.int .i64 9, .bool true]) ∧ Below w.heap.size w w' := by
  have h := aligned_calls 130 64 (by decide) w
  rwa [show alignedV 130 64 = 9 from by decide +kernel, show alignedB 130 64 = true from by decide +kernel] at h
theorem v_size8 (w : World) : Calls Try.prog 22 #[.int .i64 8] w fun e w' => e = .returned (.int .i64 160) ∧ Below w.heap.size w w' := by
  have h := size_calls 8 w
  rwa [show sizeV 8 = 160 from by decide +kernel] at h
theorem v_size16 (w : World) : Calls Try.prog 22 #[.int .i64 16] w fun e w' => e = .returned (.int .i64 0) ∧ Below w.heap.size w w' := by
  have h := size_calls 16 w
  rwa [show sizeV 16 = 0 from by decide +kernel] at h
theorem v_slots (w : World) : Calls Try.prog 23 #[.int .i64 8] w fun e w' => e = .returned (.int .i64 6) ∧ Below w.heap.size w w' := by
  have h := slots_calls 8 w
  rwa [show slotsV 8 = 6 from by decide +kernel] at h
theorem v_sizes (w : World) : Calls Try.prog 20 #[] w fun e w' => ∃ A c, e = .returned (.slice A 16 c) ∧ Below w.heap.size w w' := by
  refine (sizes_calls w).mono ?_
  rintro e w' ⟨v, rfl, hown, hb⟩
  obtain ⟨A, c, rfl, _⟩ := hown.shape
  exact ⟨A, c, rfl, hb⟩
set_option maxRecDepth 100000 in
set_option maxHeartbeats 2000000 in
theorem alive_calls (w : World) : Calls Try.prog 14 #[] w fun e w' => e = .returned (.bool true) ∧ Below w.heap.size w w' := by
  go_enter Try.func14, Try.ntmps14
  go_wp2_with (first
    | (go_at_call 16; (with_reducible refine (v_class _).mono ?_); rintro e w1 ⟨rfl, hb1⟩)
    | (go_at_call 18; (with_reducible refine (v_aligned _).mono ?_); rintro e w2 ⟨rfl, hb2⟩)
    | (go_at_call 22; (with_reducible refine (v_size8 _).mono ?_); rintro e w3 ⟨rfl, hb3⟩)
    | (go_at_call 23; (with_reducible refine (v_slots _).mono ?_); rintro e w4 ⟨rfl, hb4⟩)
    | (go_at_call 22; (with_reducible refine (v_size16 _).mono ?_); rintro e w5 ⟨rfl, hb5⟩)
    | (go_at_call 20; (with_reducible refine (v_sizes _).mono ?_); rintro e w6 ⟨A, c, rfl, hb6⟩))
  go_ret
  exact ⟨rfl, below_then (below_then (below_then (below_then (below_then hb1 hb2) hb3) hb4) hb5) hb6⟩
set_option maxRecDepth 100000 in
set_option maxHeartbeats 4000000 in
theorem waste_walk (n : Int) (hn : -9223372036854775808 ≤ n ∧ n < 9223372036854775808) (w : World) :
    Calls Try.prog 4 #[.int .i64 n] w fun e w' => e = .returned (.bool true) ∧ Below w.heap.size w w' := by
  have L := Lib.hid alive_calls
  have C := Lib.hid (class_calls n)
  by_cases h : 0 ≤ n ∧ n ≤ 512
  · obtain ⟨h1, h2, h3, h4, h5, h6, h7, h8, h9, h10, h11⟩ := waste n h
    have S := Lib.hid (size_calls (classV n))
    have S' := Lib.hid (size_calls (classV n - 1))
    have K := Lib.hid (slots_calls (classV n))
    rw [h1] at C
    generalize sizeV (classV n - 1) = s' at S' h6
    generalize sizeV (classV n) = s at S h4 h5 h7 h10 h11
    generalize slotsV (classV n) = k at K h8 h9 h10 h11
    generalize classV n = c at C S S' K h2 h3 h6
    have h7' : (s % 16 != 0) = false := by rw [h7]; rfl
    have g1 := h.1
    have g2 := h.2
    have h10' : 0 ≤ k * s := Int.mul_nonneg (by omega) (by omega)
    have h11' : (k + 1) * s ≤ 2048 := by rw [Int.add_mul]; omega
    have h12 : n / 4 ≤ 128 ∧ 0 ≤ n / 4 := by omega
    obtain ⟨h12a, h12b⟩ := h12
    have h13 : 0 ≤ s - n := by omega
    clear h h1 hn h7
    by_cases hc : 0 < c
    · have h6' : s' < n := by omega
      clear h6
      go_enter Try.func4, Try.ntmps4
      go_wp2_with (first
        | (go_at_call 14; refine (L.out _).mono ?_; rintro e w1 ⟨rfl, hb1⟩)
        | (go_at_call 16; refine (C.out _).mono ?_; rintro e w2 ⟨rfl, hb2⟩)
        | (go_at_call 22; with_reducible refine (S.out _).mono ?_; rintro e w3 ⟨rfl, hb3⟩)
        | (go_at_call 22; with_reducible refine (S'.out _).mono ?_; rintro e w4 ⟨rfl, hb4⟩)
        | (go_at_call 23; refine (K.out _).mono ?_; rintro e w5 ⟨rfl, hb5⟩))
      go_ret
      exact ⟨ret_bool (by first | rfl | assumption | (simp; done) | (simp [*]; done)), below_then (below_then (below_then (below_then hb1 hb2) hb3) hb4) hb5⟩
    · obtain rfl : c = 0 := by omega
      clear h6 hc
      go_enter Try.func4, Try.ntmps4
      go_wp2_with (first
        | (go_at_call 14; refine (L.out _).mono ?_; rintro e w1 ⟨rfl, hb1⟩)
        | (go_at_call 16; refine (C.out _).mono ?_; rintro e w2 ⟨rfl, hb2⟩)
        | (go_at_call 22; with_reducible refine (S.out _).mono ?_; rintro e w3 ⟨rfl, hb3⟩)
        | (go_at_call 23; refine (K.out _).mono ?_; rintro e w5 ⟨rfl, hb5⟩))
      go_ret
      exact ⟨ret_bool (by first | rfl | assumption | (simp; done) | (simp [*]; done)), below_then (below_then (below_then hb1 hb2) hb3) hb5⟩
  · obtain ⟨e1, e2⟩ := waste_out n h
    rw [e1, e2] at C
    clear e1 e2 hn
    by_cases h0 : n < 0
    · clear h
      go_enter Try.func4, Try.ntmps4
      go_wp2_with (first
        | (go_at_call 14; refine (L.out _).mono ?_; rintro e w1 ⟨rfl, hb1⟩)
        | (go_at_call 16; refine (C.out _).mono ?_; rintro e w2 ⟨rfl, hb2⟩))
      go_ret
      exact ⟨ret_bool (by first | rfl | assumption | (simp; done) | (simp [*]; done)), below_then hb1 hb2⟩
    · have h1 : 512 < n := by omega
      clear h
      go_enter Try.func4, Try.ntmps4
      go_wp2_with (first
        | (go_at_call 14; refine (L.out _).mono ?_; rintro e w1 ⟨rfl, hb1⟩)
        | (go_at_call 16; refine (C.out _).mono ?_; rintro e w2 ⟨rfl, hb2⟩))
      go_ret
      exact ⟨ret_bool (by first | rfl | assumption | (simp; done) | (simp [*]; done)), below_then hb1 hb2⟩
theorem slotsV_le (c : Int) : 0 ≤ slotsV c ∧ slotsV c ≤ 64 := by
  unfold slotsV
  rcases sizeV_bounds c with h | ⟨h1, h2⟩
  · rw [if_pos h]; decide
  · rw [if_neg (by omega)]
    refine ⟨Int.ediv_nonneg (by decide) (by omega), ?_⟩
    apply Int.ediv_le_of_le_mul (by omega)
    omega
set_option maxRecDepth 100000 in
set_option maxHeartbeats 4000000 in
theorem aligns_walk (n a t : Int) (hn : -9223372036854775808 ≤ n ∧ n < 9223372036854775808) (ha : -9223372036854775808 ≤ a ∧ a < 9223372036854775808) (ht : -9223372036854775808 ≤ t ∧ t < 9223372036854775808) (w : World) :
    Calls Try.prog 5 #[.int .i64 n, .int .i64 a, .int .i64 t] w fun e w' => e = .returned (.bool true) ∧ Below w.heap.size w w' := by
  have L := Lib.hid alive_calls
  have C := Lib.hid (aligned_calls n a ha)
  rcases aligned_hit n a with ⟨h1, h2⟩ | ⟨h1, h2, h3, h4, h5, h6, h7, h8⟩
  · rw [h1, h2] at C
    clear h1 h2 hn ha ht
    go_enter Try.func5, Try.ntmps5
    go_wp2_with (first
      | (go_at_call 14; refine (L.out _).mono ?_; rintro e w1 ⟨rfl, hb1⟩)
      | (go_at_call 18; refine (C.out _).mono ?_; rintro e w2 ⟨rfl, hb2⟩))
    go_ret
    exact ⟨rfl, below_then hb1 hb2⟩
  · rw [h1] at C
    have S := Lib.hid (size_calls (alignedV n a))
    have K := Lib.hid (slots_calls (alignedV n a))
    have hk := slotsV_le (alignedV n a)
    generalize sizeV (alignedV n a) = s at S h5 h6 h7 h8
    generalize slotsV (alignedV n a) = k at K hk
    generalize alignedV n a = c at C S K
    obtain ⟨k0, k1⟩ := hk
    have t0 := ht.1
    have t1 := ht.2
    have h6' : ((t * s) % a == 0) = true := by
      rw [beq_iff_eq, Int.mul_emod, h6, Int.mul_zero, Int.zero_emod]
    clear h1 h4 h6 hn ha ht
    by_cases ht0 : t < 0
    · go_enter Try.func5, Try.ntmps5
      go_wp2_with (first
        | (go_at_call 14; refine (L.out _).mono ?_; rintro e w1 ⟨rfl, hb1⟩)
        | (go_at_call 18; refine (C.out _).mono ?_; rintro e w2 ⟨rfl, hb2⟩)
        | (go_at_call 22; refine (S.out _).mono ?_; rintro e w3 ⟨rfl, hb3⟩))
      go_ret
      exact ⟨ret_bool (by first | rfl | assumption | (simp; done) | (simp [*]; done)), below_then (below_then hb1 hb2) hb3⟩
    · by_cases htk : k ≤ t
      · go_enter Try.func5, Try.ntmps5
        go_wp2_with (first
          | (go_at_call 14; refine (L.out _).mono ?_; rintro e w1 ⟨rfl, hb1⟩)
          | (go_at_call 18; refine (C.out _).mono ?_; rintro e w2 ⟨rfl, hb2⟩)
          | (go_at_call 22; refine (S.out _).mono ?_; rintro e w3 ⟨rfl, hb3⟩)
          | (go_at_call 23; refine (K.out _).mono ?_; rintro e w5 ⟨rfl, hb5⟩))
        go_ret
        exact ⟨ret_bool (by first | rfl | assumption | (simp; done) | (simp [*]; done)), below_then (below_then (below_then hb1 hb2) hb3) hb5⟩
      · have hts0 : 0 ≤ t * s := Int.mul_nonneg (by omega) (by omega)
        have hts1 : t * s ≤ 64 * 512 := Int.mul_le_mul (by omega) (by omega) (by omega) (by omega)
        go_enter Try.func5, Try.ntmps5
        go_wp2_with (first
          | (go_at_call 14; refine (L.out _).mono ?_; rintro e w1 ⟨rfl, hb1⟩)
          | (go_at_call 18; refine (C.out _).mono ?_; rintro e w2 ⟨rfl, hb2⟩)
          | (go_at_call 22; refine (S.out _).mono ?_; rintro e w3 ⟨rfl, hb3⟩)
          | (go_at_call 23; refine (K.out _).mono ?_; rintro e w5 ⟨rfl, hb5⟩))
        go_ret
        exact ⟨ret_bool (by first | rfl | assumption | (simp; done) | (simp [*]; done)), below_then (below_then (below_then hb1 hb2) hb3) hb5⟩
end Go.Proofs.Ythkpfeikpmcpeaa.Tab
