/- Layer 6: the law TablebAnswers, walked. -/
import Derived.Test.YthkpfeikpmcpeaaTbbW
set_option linter.unusedVariables false
namespace Go.Proofs.Ythkpfeikpmcpeaa.Tbb
open Go.RowKit Go.Proofs.Ythkpfeikpmcpeaa.Aid Go.Proofs.Ythkpfeikpmcpeaa.Tab
set_option maxRecDepth 100000 in
set_option maxHeartbeats 4000000 in
theorem answers_walk (v n a c : Int) (hv : -9223372036854775808 ≤ v ∧ v < 9223372036854775808) (hn : -9223372036854775808 ≤ n ∧ n < 9223372036854775808) (ha : -9223372036854775808 ≤ a ∧ a < 9223372036854775808) (hc : -9223372036854775808 ≤ c ∧ c < 9223372036854775808) (w : World) :
    Calls Try.prog 10 #[.int .i64 v, .int .i64 n, .int .i64 a, .int .i64 c] w fun e w' => e = .returned (.bool true) ∧ Below w.heap.size w w' := by
  have L := Lib.hid alive_calls
  have C := Lib.hid (Tbb.class_calls v n)
  rw [(Tbb.class_first v n).1, (Tbb.class_first v n).2] at C
  have F1 := Lib.hid (fst_calls (tb v) n 1 (by decide) (tb_len v) (tb_bounds v))
  obtain ⟨o1, ho1⟩ : ∃ o1, o1 = decide (0 ≤ fstV (tb v) n 1) := ⟨_, rfl⟩
  rw [← ho1] at C
  generalize fstV (tb v) n 1 = f1 at C F1 ho1
  have ho1' : (o1 == decide (0 ≤ f1)) = true := by rw [ho1]; simp
  have AL := Lib.hid (Tbb.aligned_calls v n a ha)
  have RA := Lib.hid (ralign_calls a)
  have F2 : isAl a = true → ∀ (A : Option Addr) (c : Nat) (w : World), Ints w .i64 A (tb v) → Calls Try.prog 17 #[.slice A (tb v).length c, .int .i64 n, .int .i64 a] w fun e w' => e = .returned (.int .i64 (fstV (tb v) n a)) ∧ w = w' := fun h => fst_calls (tb v) n a ⟨by
    unfold isAl at h; rw [Bool.and_eq_true] at h; exact (of_decide_eq_true h.1).1, ha.2⟩ (tb_len v) (tb_bounds v)
  have hal := Tbb.aligned_first v n a
  obtain ⟨o2, ho2, ho2'⟩ : ∃ o2, o2 = alignedTB v n a ∧ o2 = decide (0 ≤ alignedT v n a) := ⟨_, rfl, rfl⟩
  rw [← ho2] at AL
  rw [hal] at ho2'
  rw [hal] at AL
  have Z := Lib.hid (Tbb.size_calls v c)
  have RZ := Lib.hid (rsize_calls v c)
  have K := Lib.hid (Tbb.slots_calls v c)
  have hzb := sizeT_bounds v c
  unfold slotsT at K
  generalize sizeT v c = z at Z RZ K hzb
  have S := Lib.hid (Tbb.sizes_calls v)
  have RS := Lib.hid (Tbb.rsizes_calls v)
  have hmx : (tb v).length ≤ maxLen := Nat.le_trans (tb_len v) (by decide)
  have SM := Lib.hid (fun A A' c c' w h h' => same_ints (tb v) (tb v) A A' c c' w h h' hmx)
  rw [show (tb v == tb v) = true from by simp] at SM
  have k1 : (f1 == f1) = true := by simp
  have k5 : (z == z) = true := by simp
  clear hn hc hv ho1
  generalize hxs : tb v = xs at *
  clear hxs
  generalize xs.length = len at *
  cases hia : isAl a
  · rw [hia] at RA ho2'
    rw [hia, if_neg (by simp)] at AL
    rw [if_neg (by simp)] at ho2'
    obtain rfl : o2 = false := ho2'
    clear F2 ho2 hia hal ha
    rcases hzb with rfl | ⟨z1, z2⟩
    · rw [if_pos rfl] at K
      go_enter Try.func10, Try.ntmps10
      go_wp2_with (first
        | (go_at_call 40; refine (L.out _).mono ?_; rintro e w1 ⟨rfl, hb1⟩)
        | (go_at_call 41; refine (RS.out _).mono ?_; rintro e w2 ⟨B1, d1, rfl, hI2, hb2⟩; have hw2 := below_then hb1 hb2)
        | (go_at_call 42; refine (C.out _).mono ?_; rintro e w3 ⟨rfl, hb3⟩; have hI3 := hI2.below hb3; have hw3 := below_then hw2 hb3)
        | (go_at_call 17; (with_reducible refine (F1.out _ _ _ hI3).mono ?_); rintro e w' ⟨rfl, rfl⟩)
        | (go_at_call 43; refine (RZ.out _).mono ?_; rintro e w4 ⟨rfl, hb4⟩; have hI4 := hI3.below hb4; have hw4 := below_then hw3 hb4)
        | (go_at_call 44; refine (AL.out _).mono ?_; rintro e w5 ⟨rfl, hb5⟩; have hI5 := hI4.below hb5; have hw5 := below_then hw4 hb5)
        | (go_at_call 19; refine (RA.out _).mono ?_; rintro e w' ⟨rfl, rfl⟩)
        | (go_at_call 45; refine (S.out _).mono ?_; rintro e w6 ⟨B2, d2, rfl, hJ, hb6⟩; have hI6 := hI5.below hb6; have hw6 := below_then hw5 hb6)
        | (go_at_call 21; refine (SM.out _ _ _ _ _ hJ hI6).mono ?_; rintro e w7 ⟨rfl, nq, rfl⟩)
        | (go_at_call 46; refine (Z.out _).mono ?_; rintro e w8 ⟨rfl, hb8⟩; have hw8 := below_then (below_drewN hw6 nq) hb8)
        | (go_at_call 47; refine (K.out _).mono ?_; rintro e w9 ⟨rfl, hb9⟩; have hw9 := below_then hw8 hb9))
      go_ret
      exact ⟨ret_bool (by first | rfl | assumption | (simp; done) | (simp [*]; done)), hw9⟩
    · rw [if_neg (by omega)] at K
      have z0 : (z == 0) = false := by rw [beq_eq_false_iff_ne]; omega
      go_enter Try.func10, Try.ntmps10
      go_wp2_with (first
        | (go_at_call 40; refine (L.out _).mono ?_; rintro e w1 ⟨rfl, hb1⟩)
        | (go_at_call 41; refine (RS.out _).mono ?_; rintro e w2 ⟨B1, d1, rfl, hI2, hb2⟩; have hw2 := below_then hb1 hb2)
        | (go_at_call 42; refine (C.out _).mono ?_; rintro e w3 ⟨rfl, hb3⟩; have hI3 := hI2.below hb3; have hw3 := below_then hw2 hb3)
        | (go_at_call 17; (with_reducible refine (F1.out _ _ _ hI3).mono ?_); rintro e w' ⟨rfl, rfl⟩)
        | (go_at_call 43; refine (RZ.out _).mono ?_; rintro e w4 ⟨rfl, hb4⟩; have hI4 := hI3.below hb4; have hw4 := below_then hw3 hb4)
        | (go_at_call 44; refine (AL.out _).mono ?_; rintro e w5 ⟨rfl, hb5⟩; have hI5 := hI4.below hb5; have hw5 := below_then hw4 hb5)
        | (go_at_call 19; refine (RA.out _).mono ?_; rintro e w' ⟨rfl, rfl⟩)
        | (go_at_call 45; refine (S.out _).mono ?_; rintro e w6 ⟨B2, d2, rfl, hJ, hb6⟩; have hI6 := hI5.below hb6; have hw6 := below_then hw5 hb6)
        | (go_at_call 21; refine (SM.out _ _ _ _ _ hJ hI6).mono ?_; rintro e w7 ⟨rfl, nq, rfl⟩)
        | (go_at_call 46; refine (Z.out _).mono ?_; rintro e w8 ⟨rfl, hb8⟩; have hw8 := below_then (below_drewN hw6 nq) hb8)
        | (go_at_call 47; refine (K.out _).mono ?_; rintro e w9 ⟨rfl, hb9⟩; have hw9 := below_then hw8 hb9))
      go_ret
      exact ⟨ret_bool (by first | rfl | assumption | (simp; done) | (simp [*]; done)), hw9⟩
  · rw [hia] at RA ho2'
    rw [hia, if_pos rfl] at AL
    rw [if_pos rfl] at ho2'
    have F2 := Lib.hid (F2 hia)
    generalize fstV xs n a = f2 at AL F2 ho2'
    have ho3 : (o2 == decide (0 ≤ f2)) = true := by rw [ho2']; simp
    have k7 : (f2 == f2) = true := by simp
    clear ho2 hia ho2' hal ha
    rcases hzb with rfl | ⟨z1, z2⟩
    · rw [if_pos rfl] at K
      go_enter Try.func10, Try.ntmps10
      go_wp2_with (first
        | (go_at_call 40; refine (L.out _).mono ?_; rintro e w1 ⟨rfl, hb1⟩)
        | (go_at_call 41; refine (RS.out _).mono ?_; rintro e w2 ⟨B1, d1, rfl, hI2, hb2⟩; have hw2 := below_then hb1 hb2)
        | (go_at_call 42; refine (C.out _).mono ?_; rintro e w3 ⟨rfl, hb3⟩; have hI3 := hI2.below hb3; have hw3 := below_then hw2 hb3)
        | (go_at_call 17; (with_reducible refine (F1.out _ _ _ hI3).mono ?_); rintro e w' ⟨rfl, rfl⟩)
        | (go_at_call 43; refine (RZ.out _).mono ?_; rintro e w4 ⟨rfl, hb4⟩; have hI4 := hI3.below hb4; have hw4 := below_then hw3 hb4)
        | (go_at_call 44; refine (AL.out _).mono ?_; rintro e w5 ⟨rfl, hb5⟩; have hI5 := hI4.below hb5; have hw5 := below_then hw4 hb5)
        | (go_at_call 19; refine (RA.out _).mono ?_; rintro e w' ⟨rfl, rfl⟩)
        | (go_at_call 17; (with_reducible refine (F2.out _ _ _ hI5).mono ?_); rintro e w' ⟨rfl, rfl⟩)
        | (go_at_call 45; refine (S.out _).mono ?_; rintro e w6 ⟨B2, d2, rfl, hJ, hb6⟩; have hI6 := hI5.below hb6; have hw6 := below_then hw5 hb6)
        | (go_at_call 21; refine (SM.out _ _ _ _ _ hJ hI6).mono ?_; rintro e w7 ⟨rfl, nq, rfl⟩)
        | (go_at_call 46; refine (Z.out _).mono ?_; rintro e w8 ⟨rfl, hb8⟩; have hw8 := below_then (below_drewN hw6 nq) hb8)
        | (go_at_call 47; refine (K.out _).mono ?_; rintro e w9 ⟨rfl, hb9⟩; have hw9 := below_then hw8 hb9))
      go_ret
      exact ⟨ret_bool (by first | rfl | assumption | (simp; done) | (simp [*]; done)), hw9⟩
    · rw [if_neg (by omega)] at K
      have z0 : (z == 0) = false := by rw [beq_eq_false_iff_ne]; omega
      go_enter Try.func10, Try.ntmps10
      go_wp2_with (first
        | (go_at_call 40; refine (L.out _).mono ?_; rintro e w1 ⟨rfl, hb1⟩)
        | (go_at_call 41; refine (RS.out _).mono ?_; rintro e w2 ⟨B1, d1, rfl, hI2, hb2⟩; have hw2 := below_then hb1 hb2)
        | (go_at_call 42; refine (C.out _).mono ?_; rintro e w3 ⟨rfl, hb3⟩; have hI3 := hI2.below hb3; have hw3 := below_then hw2 hb3)
        | (go_at_call 17; (with_reducible refine (F1.out _ _ _ hI3).mono ?_); rintro e w' ⟨rfl, rfl⟩)
        | (go_at_call 43; refine (RZ.out _).mono ?_; rintro e w4 ⟨rfl, hb4⟩; have hI4 := hI3.below hb4; have hw4 := below_then hw3 hb4)
        | (go_at_call 44; refine (AL.out _).mono ?_; rintro e w5 ⟨rfl, hb5⟩; have hI5 := hI4.below hb5; have hw5 := below_then hw4 hb5)
        | (go_at_call 19; refine (RA.out _).mono ?_; rintro e w' ⟨rfl, rfl⟩)
        | (go_at_call 17; (with_reducible refine (F2.out _ _ _ hI5).mono ?_); rintro e w' ⟨rfl, rfl⟩)
        | (go_at_call 45; refine (S.out _).mono ?_; rintro e w6 ⟨B2, d2, rfl, hJ, hb6⟩; have hI6 := hI5.below hb6; have hw6 := below_then hw5 hb6)
        | (go_at_call 21; refine (SM.out _ _ _ _ _ hJ hI6).mono ?_; rintro e w7 ⟨rfl, nq, rfl⟩)
        | (go_at_call 46; refine (Z.out _).mono ?_; rintro e w8 ⟨rfl, hb8⟩; have hw8 := below_then (below_drewN hw6 nq) hb8)
        | (go_at_call 47; refine (K.out _).mono ?_; rintro e w9 ⟨rfl, hb9⟩; have hw9 := below_then hw8 hb9))
      go_ret
      exact ⟨ret_bool (by first | rfl | assumption | (simp; done) | (simp [*]; done)), hw9⟩
end Go.Proofs.Ythkpfeikpmcpeaa.Tbb
