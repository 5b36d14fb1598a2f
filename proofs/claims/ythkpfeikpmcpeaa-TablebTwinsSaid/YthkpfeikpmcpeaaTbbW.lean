/- Layer 6: alive, and the law TablebWaste, walked. -/
import Derived.Test.YthkpfeikpmcpeaaTbbP
set_option linter.unusedVariables false
namespace Go.Proofs.Ythkpfeikpmcpeaa.Tbb
open Go.RowKit Go.Proofs.Ythkpfeikpmcpeaa.Aid Go.Proofs.Ythkpfeikpmcpeaa.Tab
theorem v_c1 (w : World) : Calls Try.prog 42 #[.int .i64 1, .int .i64 130] w fun e w' => e = .returned (.tuple #[.int .i64 8, .bool true]) ∧ Below w.heap.size w w' := by
  have h := class_calls 1 130 w
  rwa [show classT 1 130 = 8 from by decide +kernel, show classTB 1 130 = true from by decide +kernel] at h
theorem v_c0 (w : World) : Calls Try.prog 42 #[.int .i64 0, .int .i64 130] w fun e w' => e = .returned (.tuple #[.int .i64 8, .bool true]) ∧ Below w.heap.size w w' := by
  have h := class_calls 0 130 w
  rwa [show classT 0 130 = 8 from by decide +kernel, show classTB 0 130 = true from by decide +kernel] at h
theorem v_al (w : World) : Calls Try.prog 44 #[.int .i64 1, .int .i64 20, .int .i64 16] w fun e w' => e = .returned (.tuple #[.int .i64 3, .bool true]) ∧ Below w.heap.size w w' := by
  have h := aligned_calls 1 20 16 (by decide) w
  rwa [show alignedT 1 20 16 = 3 from by decide +kernel, show alignedTB 1 20 16 = true from by decide +kernel] at h
theorem v_size (w : World) : Calls Try.prog 46 #[.int .i64 1, .int .i64 8] w fun e w' => e = .returned (.int .i64 192) ∧ Below w.heap.size w w' := by
  have h := size_calls 1 8 w
  rwa [show sizeT 1 8 = 192 from by decide +kernel] at h
theorem v_slots (w : World) : Calls Try.prog 47 #[.int .i64 1, .int .i64 0] w fun e w' => e = .returned (.int .i64 128) ∧ Below w.heap.size w w' := by
  have h := slots_calls 1 0 w
  rwa [show slotsT 1 0 = 128 from by decide +kernel] at h
theorem v_t0 (w : World) : Calls Try.prog 49 #[.int .i64 0, .int .i64 9] w fun e w' => e = .returned (.int .i64 8) ∧ Below w.heap.size w w' := by
  have h := twin_calls 0 9 w
  rwa [show twinV 0 9 = 8 from by decide +kernel] at h
theorem v_t1 (w : World) : Calls Try.prog 49 #[.int .i64 1, .int .i64 0] w fun e w' => e = .returned (.int .i64 (-1)) ∧ Below w.heap.size w w' := by
  have h := twin_calls 1 0 w
  rwa [show twinV 1 0 = -1 from by decide +kernel] at h
theorem v_b1 (w : World) : Calls Try.prog 50 #[.int .i64 384] w fun e w' => e = .returned (.bool true) ∧ Below w.heap.size w w' := by
  have h := both_calls 384 w
  rwa [show bothV 384 = true from by decide +kernel] at h
theorem v_b2 (w : World) : Calls Try.prog 50 #[.int .i64 24] w fun e w' => e = .returned (.bool false) ∧ Below w.heap.size w w' := by
  have h := both_calls 24 w
  rwa [show bothV 24 = false from by decide +kernel] at h
theorem v_sizes (w : World) : Calls Try.prog 45 #[.int .i64 1] w fun e w' => ∃ A c, e = .returned (.slice A 12 c) ∧ Below w.heap.size w w' := by
  refine (sizes_calls 1 w).mono ?_
  rintro e w' ⟨A, c, rfl, _, hb⟩
  exact ⟨A, c, rfl, hb⟩
set_option maxRecDepth 100000 in
set_option maxHeartbeats 2000000 in
theorem alive_calls (w : World) : Calls Try.prog 40 #[] w fun e w' => e = .returned (.bool true) ∧ Below w.heap.size w w' := by
  go_enter Try.func40, Try.ntmps40
  go_wp2_with (first
    | (go_at_call 42; (with_reducible refine (v_c1 _).mono ?_); rintro e w1 ⟨rfl, hb1⟩)
    | (go_at_call 42; (with_reducible refine (v_c0 _).mono ?_); rintro e w2 ⟨rfl, hb2⟩)
    | (go_at_call 44; (with_reducible refine (v_al _).mono ?_); rintro e w3 ⟨rfl, hb3⟩)
    | (go_at_call 46; (with_reducible refine (v_size _).mono ?_); rintro e w4 ⟨rfl, hb4⟩)
    | (go_at_call 47; (with_reducible refine (v_slots _).mono ?_); rintro e w5 ⟨rfl, hb5⟩)
    | (go_at_call 49; (with_reducible refine (v_t0 _).mono ?_); rintro e w6 ⟨rfl, hb6⟩)
    | (go_at_call 49; (with_reducible refine (v_t1 _).mono ?_); rintro e w7 ⟨rfl, hb7⟩)
    | (go_at_call 50; (with_reducible refine (v_b1 _).mono ?_); rintro e w8 ⟨rfl, hb8⟩)
    | (go_at_call 50; (with_reducible refine (v_b2 _).mono ?_); rintro e w9 ⟨rfl, hb9⟩)
    | (go_at_call 45; (with_reducible refine (v_sizes _).mono ?_); rintro e w10 ⟨A, c, rfl, hb10⟩))
  go_ret
  exact ⟨rfl, below_then (below_then (below_then (below_then (below_then (below_then (below_then (below_then (below_then hb1 hb2) hb3) hb4) hb5) hb6) hb7) hb8) hb9) hb10⟩
/-- What the class of a size wastes. -/
theorem waste (v n : Int) (hv : v = 0 ∨ v = 1) (h : 0 ≤ n ∧ n ≤ 512) : classTB v n = true ∧ 0 ≤ classT v n ∧ classT v n < 16 ∧ n ≤ sizeT v (classT v n) ∧ (classT v n = 0 ∨ sizeT v (classT v n) < 2 * n) ∧ (classT v n = 0 ∨ sizeT v (classT v n - 1) < n) ∧ sizeT v (classT v n) % 8 = 0 ∧ 0 ≤ slotsT v (classT v n) ∧ slotsT v (classT v n) ≤ 128 ∧ 0 ≤ slotsT v (classT v n) * sizeT v (classT v n) ∧ slotsT v (classT v n) * sizeT v (classT v n) ≤ 1024 ∧ sizeT v (classT v n) ≤ 512 := by
  have key : ∀ v : Nat, v < 2 → (List.range 513).all (fun m => decide (classTB (v : Nat) (m : Nat) = true ∧ 0 ≤ classT (v : Nat) (m : Nat) ∧ classT (v : Nat) (m : Nat) < 16 ∧ ((m : Nat) : Int) ≤ sizeT (v : Nat) (classT (v : Nat) (m : Nat)) ∧ (classT (v : Nat) (m : Nat) = 0 ∨ sizeT (v : Nat) (classT (v : Nat) (m : Nat)) < 2 * ((m : Nat) : Int)) ∧ (classT (v : Nat) (m : Nat) = 0 ∨ sizeT (v : Nat) (classT (v : Nat) (m : Nat) - 1) < (m : Nat)) ∧ sizeT (v : Nat) (classT (v : Nat) (m : Nat)) % 8 = 0 ∧ 0 ≤ slotsT (v : Nat) (classT (v : Nat) (m : Nat)) ∧ slotsT (v : Nat) (classT (v : Nat) (m : Nat)) ≤ 128 ∧ 0 ≤ slotsT (v : Nat) (classT (v : Nat) (m : Nat)) * sizeT (v : Nat) (classT (v : Nat) (m : Nat)) ∧ slotsT (v : Nat) (classT (v : Nat) (m : Nat)) * sizeT (v : Nat) (classT (v : Nat) (m : Nat)) ≤ 1024 ∧ sizeT (v : Nat) (classT (v : Nat) (m : Nat)) ≤ 512)) = true := by
    intro v hv
    rcases (by omega : v = 0 ∨ v = 1) with rfl | rfl
    · decide +kernel
    · decide +kernel
  obtain ⟨m, rfl⟩ := Int.eq_ofNat_of_zero_le h.1
  obtain ⟨u, rfl⟩ := Int.eq_ofNat_of_zero_le (show 0 ≤ v by omega)
  exact of_decide_eq_true (List.all_eq_true.1 (key u (by omega)) m (List.mem_range.2 (by omega)))
theorem waste_out (v n : Int) (h : ¬ ((v = 0 ∨ v = 1) ∧ 0 ≤ n ∧ n ≤ 512)) : classT v n = -1 ∧ classTB v n = false := by
  have hbig := cntL_big v n
  have h' : n < 0 ∨ cntL v n = (tb v).length := by
    by_cases hv : v = 0 ∨ v = 1
    · omega
    · right
      unfold cntL
      rw [tb_else v (fun h => hv (.inl h)) (fun h => hv (.inr h))]
      rfl
  unfold classT classTB
  exact ⟨if_pos h', decide_eq_false (fun hh => hh h')⟩
set_option maxRecDepth 100000 in
set_option maxHeartbeats 4000000 in
theorem waste_walk (v n : Int) (hv : -9223372036854775808 ≤ v ∧ v < 9223372036854775808) (hn : -9223372036854775808 ≤ n ∧ n < 9223372036854775808) (w : World) :
    Calls Try.prog 12 #[.int .i64 v, .int .i64 n] w fun e w' => e = .returned (.bool true) ∧ Below w.heap.size w w' := by
  have L := Lib.hid alive_calls
  have C := Lib.hid (class_calls v n)
  by_cases h : (v = 0 ∨ v = 1) ∧ 0 ≤ n ∧ n ≤ 512
  · obtain ⟨h1, h2, h3, h4, h5, h6, h7, h8, h9, h10, h11, h12⟩ := waste v n h.1 h.2
    have S := Lib.hid (size_calls v (classT v n))
    have S' := Lib.hid (size_calls v (classT v n - 1))
    have K := Lib.hid (slots_calls v (classT v n))
    rw [h1] at C
    generalize sizeT v (classT v n - 1) = s' at S' h6
    generalize sizeT v (classT v n) = s at S h4 h5 h7 h10 h11 h12
    generalize slotsT v (classT v n) = k at K h8 h9 h10 h11
    generalize classT v n = c at C S S' K h2 h3 h5 h6
    have h7' : (s % 8 == 0) = true := by rw [h7]; rfl
    have g1 := h.2.1
    have g2 := h.2.2
    have v0 : 0 ≤ v := by omega
    have v1 : v ≤ 1 := by omega
    clear h h1 hn hv h7
    by_cases hc : c = 0
    · subst hc
      clear h5 h6
      by_cases h2n : s < 2 * n
      all_goals
        go_enter Try.func12, Try.ntmps12
        go_wp2_with (first
          | (go_at_call 40; refine (L.out _).mono ?_; rintro e w1 ⟨rfl, hb1⟩)
          | (go_at_call 42; refine (C.out _).mono ?_; rintro e w2 ⟨rfl, hb2⟩)
          | (go_at_call 46; (with_reducible refine (S.out _).mono ?_); rintro e w3 ⟨rfl, hb3⟩)
          | (go_at_call 47; refine (K.out _).mono ?_; rintro e w5 ⟨rfl, hb5⟩))
        go_ret
        exact ⟨ret_bool (by first | rfl | assumption | (simp; done) | (simp [*]; done)), below_then (below_then (below_then hb1 hb2) hb3) hb5⟩
    · have h5' : s < 2 * n := by omega
      have h6' : s' < n := by omega
      have hc' : (c == 0) = false := by rw [beq_eq_false_iff_ne]; exact hc
      clear h5 h6 hc
      go_enter Try.func12, Try.ntmps12
      go_wp2_with (first
        | (go_at_call 40; refine (L.out _).mono ?_; rintro e w1 ⟨rfl, hb1⟩)
        | (go_at_call 42; refine (C.out _).mono ?_; rintro e w2 ⟨rfl, hb2⟩)
        | (go_at_call 46; (with_reducible refine (S.out _).mono ?_); rintro e w3 ⟨rfl, hb3⟩)
        | (go_at_call 46; (with_reducible refine (S'.out _).mono ?_); rintro e w4 ⟨rfl, hb4⟩)
        | (go_at_call 47; refine (K.out _).mono ?_; rintro e w5 ⟨rfl, hb5⟩))
      go_ret
      exact ⟨ret_bool (by first | rfl | assumption | (simp; done) | (simp [*]; done)), below_then (below_then (below_then (below_then hb1 hb2) hb3) hb4) hb5⟩
  · obtain ⟨e1, e2⟩ := waste_out v n h
    rw [e1, e2] at C
    have hw : v < 0 ∨ 0 ≤ v ∧ 1 < v ∨ 0 ≤ v ∧ v ≤ 1 ∧ n < 0 ∨ 0 ≤ v ∧ v ≤ 1 ∧ 0 ≤ n ∧ 512 < n := by omega
    clear e1 e2 hn hv h
    rcases hw with a1 | ⟨a1, a2⟩ | ⟨a1, a2, a3⟩ | ⟨a1, a2, a3, a4⟩
    all_goals
      go_enter Try.func12, Try.ntmps12
      go_wp2_with (first
        | (go_at_call 40; refine (L.out _).mono ?_; rintro e w1 ⟨rfl, hb1⟩)
        | (go_at_call 42; refine (C.out _).mono ?_; rintro e w2 ⟨rfl, hb2⟩))
      go_ret
      exact ⟨ret_bool (by first | rfl | assumption | (simp; done) | (simp [*]; done)), below_then hb1 hb2⟩
end Go.Proofs.Ythkpfeikpmcpeaa.Tbb
