/- Layer 6: the law TablebOld, walked. -/
import Derived.Test.YthkpfeikpmcpeaaTbbW
set_option linter.unusedVariables false
namespace Go.Proofs.Ythkpfeikpmcpeaa.Tbb
open Go.RowKit Go.Proofs.Ythkpfeikpmcpeaa.Aid Go.Proofs.Ythkpfeikpmcpeaa.Tab
theorem old_class (n : Int) : classT 0 n = classV n ∧ classTB 0 n = classB n := ⟨rfl, rfl⟩
theorem old_size (c : Int) : sizeT 0 c = sizeV c := rfl
theorem old_slots (c : Int) : slotsT 0 c = slotsV c := rfl
theorem fst_first (n a : Int) : ∀ d k, fstGo tab n a d k = firstGo n a d k
  | 0, _ => rfl
  | d + 1, k => by rw [fstGo_step, firstGo_step, fst_first n a d (k + 1)]
theorem old_aligned (n a : Int) : alignedT 0 n a = alignedV n a ∧ alignedTB 0 n a = alignedB n a := by
  have h : alignedT 0 n a = alignedV n a := by
    rw [Tbb.aligned_first, Tab.aligned_first]
    unfold fstV firstV
    rw [show tb 0 = tab from rfl, show tab.length = 16 from rfl, fst_first]
  exact ⟨h, by unfold alignedTB alignedB; rw [h]⟩
set_option maxRecDepth 100000 in
set_option maxHeartbeats 4000000 in
theorem old_walk (n a c : Int) (hn : -9223372036854775808 ≤ n ∧ n < 9223372036854775808) (ha : -9223372036854775808 ≤ a ∧ a < 9223372036854775808) (hc : -9223372036854775808 ≤ c ∧ c < 9223372036854775808) (w : World) :
    Calls Try.prog 13 #[.int .i64 n, .int .i64 a, .int .i64 c] w fun e w' => e = .returned (.bool true) ∧ Below w.heap.size w w' := by
  have L := Lib.hid alive_calls
  have C := Lib.hid (Tbb.class_calls 0 n)
  have C' := Lib.hid (Tab.class_calls n)
  rw [(old_class n).1, (old_class n).2] at C
  generalize classV n = c1 at C C'
  generalize classB n = c2 at C C'
  have A := Lib.hid (Tbb.aligned_calls 0 n a ha)
  have A' := Lib.hid (Tab.aligned_calls n a ha)
  rw [(old_aligned n a).1, (old_aligned n a).2] at A
  generalize alignedV n a = a1 at A A'
  generalize alignedB n a = a2 at A A'
  have Z := Lib.hid (Tbb.size_calls 0 c)
  have Z' := Lib.hid (Tab.size_calls c)
  rw [old_size c] at Z
  generalize sizeV c = z at Z Z'
  have K := Lib.hid (Tbb.slots_calls 0 c)
  have K' := Lib.hid (Tab.slots_calls c)
  rw [old_slots c] at K
  generalize slotsV c = k at K K'
  have S := Lib.hid (Tbb.sizes_calls 0)
  rw [tb_zero] at S
  have S' : ∀ w, Calls Try.prog 20 #[] w fun e w' => ∃ A c, e = .returned (.slice A tab.length c) ∧ Ints w' .i64 A tab ∧ Below w.heap.size w w' := fun w => by
    refine (Tab.sizes_calls w).mono ?_
    rintro e w' ⟨v, rfl, hown, hb⟩
    obtain ⟨A, c, rfl, hi⟩ := hown.shape
    exact ⟨A, c, rfl, hi, hb⟩
  have S' := Lib.hid S'
  have SM := Lib.hid (fun A A' c c' w h h' => same_ints tab tab A A' c c' w h h' (by decide))
  rw [show (tab == tab) = true from by simp] at SM
  generalize tab.length = len at S S' SM
  have k1 : (c1 == c1) = true := by simp
  have k2 : (c2 == c2) = true := by simp
  have k3 : (a1 == a1) = true := by simp
  have k4 : (a2 == a2) = true := by simp
  have k5 : (z == z) = true := by simp
  have k6 : (k == k) = true := by simp
  clear hn ha hc
  go_enter Try.func13, Try.ntmps13
  go_wp2_with (first
    | (go_at_call 40; refine (L.out _).mono ?_; rintro e w1 ⟨rfl, hb1⟩)
    | (go_at_call 42; refine (C.out _).mono ?_; rintro e w2 ⟨rfl, hb2⟩; have hw2 := below_then hb1 hb2)
    | (go_at_call 16; refine (C'.out _).mono ?_; rintro e w3 ⟨rfl, hb3⟩; have hw3 := below_then hw2 hb3)
    | (go_at_call 44; refine (A.out _).mono ?_; rintro e w4 ⟨rfl, hb4⟩; have hw4 := below_then hw3 hb4)
    | (go_at_call 18; refine (A'.out _).mono ?_; rintro e w5 ⟨rfl, hb5⟩; have hw5 := below_then hw4 hb5)
    | (go_at_call 46; refine (Z.out _).mono ?_; rintro e w6 ⟨rfl, hb6⟩; have hw6 := below_then hw5 hb6)
    | (go_at_call 22; refine (Z'.out _).mono ?_; rintro e w7 ⟨rfl, hb7⟩; have hw7 := below_then hw6 hb7)
    | (go_at_call 47; refine (K.out _).mono ?_; rintro e w8 ⟨rfl, hb8⟩; have hw8 := below_then hw7 hb8)
    | (go_at_call 23; refine (K'.out _).mono ?_; rintro e w9 ⟨rfl, hb9⟩; have hw9 := below_then hw8 hb9)
    | (go_at_call 45; refine (S.out _).mono ?_; rintro e w10 ⟨B1, d1, rfl, hI1, hb10⟩; have hw10 := below_then hw9 hb10)
    | (go_at_call 20; refine (S'.out _).mono ?_; rintro e w11 ⟨B2, d2, rfl, hI2, hb11⟩; have hI1' := hI1.below hb11; have hw11 := below_then hw10 hb11)
    | (go_at_call 21; refine (SM.out _ _ _ _ _ hI1' hI2).mono ?_; rintro e w12 ⟨rfl, nq, rfl⟩))
  go_ret
  exact ⟨ret_bool (by first | rfl | assumption | (simp; done) | (simp [*]; done)), below_drewN hw11 _⟩
end Go.Proofs.Ythkpfeikpmcpeaa.Tbb
