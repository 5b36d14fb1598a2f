/- Layer 6: the law TablebTwins, walked. -/
import Derived.Test.YthkpfeikpmcpeaaTbbW
import Derived.Test.YthkpfeikpmcpeaaTbbZ
set_option linter.unusedVariables false
namespace Go.Proofs.Ythkpfeikpmcpeaa.Tbb
open Go.RowKit Go.Proofs.Ythkpfeikpmcpeaa.Aid Go.Proofs.Ythkpfeikpmcpeaa.Tab
set_option maxRecDepth 100000 in
set_option maxHeartbeats 4000000 in
theorem twins_walk (v c n : Int) (hv : -9223372036854775808 ≤ v ∧ v < 9223372036854775808) (hc : -9223372036854775808 ≤ c ∧ c < 9223372036854775808) (hn : -9223372036854775808 ≤ n ∧ n < 9223372036854775808) (w : World) :
    Calls Try.prog 11 #[.int .i64 v, .int .i64 c, .int .i64 n] w fun e w' => e = .returned (.bool true) ∧ Below w.heap.size w w' := by
  have L := Lib.hid alive_calls
  have RZ := Lib.hid (rsize_calls v c)
  have T := Lib.hid (twin_calls v c)
  have B := Lib.hid (both_calls n)
  have P0 := Lib.hid (rplace_calls 0 n)
  have P1 := Lib.hid (rplace_calls 1 n)
  have RP := Lib.hid (rplace_calls (1 - v) (sizeT v c))
  have TT := twin_twin v c
  have T2 := Lib.hid (twin_calls (1 - v) (twinV v c))
  have Z2 := Lib.hid (Tbb.size_calls (1 - v) (twinV v c))
  have K2 := Lib.hid (Tbb.slots_calls (1 - v) (twinV v c))
  have K := Lib.hid (Tbb.slots_calls v c)
  have hzb := sizeT_bounds v c
  have hzv := sizeT_version v c
  have ht : twinV v c = if sizeT v c = 0 then -1 else placeV (tb (1 - v)) (sizeT v c) := rfl
  unfold bothV at B
  generalize placeV (tb 0) n = q0 at B P0
  generalize placeV (tb 1) n = q1 at B P1
  generalize placeV (tb (1 - v)) (sizeT v c) = t' at RP ht
  generalize twinV (1 - v) (twinV v c) = c' at T2 TT
  generalize sizeT (1 - v) (twinV v c) = z' at Z2 TT
  generalize slotsT (1 - v) (twinV v c) = k' at K2 TT
  generalize slotsT v c = k at K TT
  generalize twinV v c = t at T T2 Z2 K2 TT ht
  generalize sizeT v c = z at RZ RP TT hzb hzv ht
  clear hc hn
  have kt : (t' != t') = false := by simp
  by_cases h0 : 0 ≤ q0
  · by_cases h1 : 0 ≤ q1
    · rw [decide_eq_true h0, decide_eq_true h1] at B
      rcases hzb with rfl | ⟨z1, z2⟩
      · rw [if_pos rfl] at ht
        subst ht
        clear TT hzv
        go_enter Try.func11, Try.ntmps11
        go_wp2_with (first
          | (go_at_call 40; refine (L.out _).mono ?_; rintro e w1 ⟨rfl, hb1⟩; have hw := hb1; clear hb1)
          | (go_at_call 43; (with_reducible refine (RZ.out _).mono ?_); rintro e w2 ⟨rfl, hb2⟩; replace hw := below_then hw hb2; clear hb2)
          | (go_at_call 48; (with_reducible refine (RP.out _).mono ?_); rintro e w3 ⟨rfl, hb3⟩; replace hw := below_then hw hb3; clear hb3)
          | (go_at_call 49; (with_reducible refine (T.out _).mono ?_); rintro e w4 ⟨rfl, hb4⟩; replace hw := below_then hw hb4; clear hb4)
          | (go_at_call 50; (with_reducible refine (B.out _).mono ?_); rintro e w5 ⟨rfl, hb5⟩; replace hw := below_then hw hb5; clear hb5)
          | (go_at_call 48; (with_reducible refine (P0.out _).mono ?_); rintro e w6 ⟨rfl, hb6⟩; replace hw := below_then hw hb6; clear hb6)
          | (go_at_call 48; (with_reducible refine (P1.out _).mono ?_); rintro e w7 ⟨rfl, hb7⟩; replace hw := below_then hw hb7; clear hb7)
          | (go_at_call 49; (with_reducible refine (T2.out _).mono ?_); rintro e w8 ⟨rfl, hb8⟩; replace hw := below_then hw hb8; clear hb8)
          | (go_at_call 46; (with_reducible refine (Z2.out _).mono ?_); rintro e w9 ⟨rfl, hb9⟩; replace hw := below_then hw hb9; clear hb9)
          | (go_at_call 47; (with_reducible refine (K2.out _).mono ?_); rintro e w10 ⟨rfl, hb10⟩; replace hw := below_then hw hb10; clear hb10)
          | (go_at_call 47; (with_reducible refine (K.out _).mono ?_); rintro e w11 ⟨rfl, hb11⟩; replace hw := below_then hw hb11; clear hb11))
        go_ret
        exact ⟨ret_bool (by first | rfl | assumption | (simp; done) | (simp [*]; done)), hw⟩
      · rw [if_neg (by omega)] at ht
        subst ht
        have hv01 := hzv (by omega)
        clear hzv
        have v0 : 0 ≤ v := by omega
        have v1 : v ≤ 1 := by omega
        clear hv hv01
        by_cases ht0 : t < 0
        · clear TT
          go_enter Try.func11, Try.ntmps11
          go_wp2_with (first
            | (go_at_call 40; refine (L.out _).mono ?_; rintro e w1 ⟨rfl, hb1⟩; have hw := hb1; clear hb1)
            | (go_at_call 43; (with_reducible refine (RZ.out _).mono ?_); rintro e w2 ⟨rfl, hb2⟩; replace hw := below_then hw hb2; clear hb2)
            | (go_at_call 48; (with_reducible refine (RP.out _).mono ?_); rintro e w3 ⟨rfl, hb3⟩; replace hw := below_then hw hb3; clear hb3)
            | (go_at_call 49; (with_reducible refine (T.out _).mono ?_); rintro e w4 ⟨rfl, hb4⟩; replace hw := below_then hw hb4; clear hb4)
            | (go_at_call 50; (with_reducible refine (B.out _).mono ?_); rintro e w5 ⟨rfl, hb5⟩; replace hw := below_then hw hb5; clear hb5)
            | (go_at_call 48; (with_reducible refine (P0.out _).mono ?_); rintro e w6 ⟨rfl, hb6⟩; replace hw := below_then hw hb6; clear hb6)
            | (go_at_call 48; (with_reducible refine (P1.out _).mono ?_); rintro e w7 ⟨rfl, hb7⟩; replace hw := below_then hw hb7; clear hb7)
            | (go_at_call 49; (with_reducible refine (T2.out _).mono ?_); rintro e w8 ⟨rfl, hb8⟩; replace hw := below_then hw hb8; clear hb8)
            | (go_at_call 46; (with_reducible refine (Z2.out _).mono ?_); rintro e w9 ⟨rfl, hb9⟩; replace hw := below_then hw hb9; clear hb9)
            | (go_at_call 47; (with_reducible refine (K2.out _).mono ?_); rintro e w10 ⟨rfl, hb10⟩; replace hw := below_then hw hb10; clear hb10)
            | (go_at_call 47; (with_reducible refine (K.out _).mono ?_); rintro e w11 ⟨rfl, hb11⟩; replace hw := below_then hw hb11; clear hb11))
          go_ret
          exact ⟨ret_bool (by first | rfl | assumption | (simp; done) | (simp [*]; done)), hw⟩
        · obtain ⟨rfl, rfl, rfl, _⟩ := TT (by omega)
          have k1 : (c' == c') = true := by simp
          have k2 : (z' == z') = true := by simp
          have k3 : (k' == k') = true := by simp
          go_enter Try.func11, Try.ntmps11
          go_wp2_with (first
            | (go_at_call 40; refine (L.out _).mono ?_; rintro e w1 ⟨rfl, hb1⟩; have hw := hb1; clear hb1)
            | (go_at_call 43; (with_reducible refine (RZ.out _).mono ?_); rintro e w2 ⟨rfl, hb2⟩; replace hw := below_then hw hb2; clear hb2)
            | (go_at_call 48; (with_reducible refine (RP.out _).mono ?_); rintro e w3 ⟨rfl, hb3⟩; replace hw := below_then hw hb3; clear hb3)
            | (go_at_call 49; (with_reducible refine (T.out _).mono ?_); rintro e w4 ⟨rfl, hb4⟩; replace hw := below_then hw hb4; clear hb4)
            | (go_at_call 50; (with_reducible refine (B.out _).mono ?_); rintro e w5 ⟨rfl, hb5⟩; replace hw := below_then hw hb5; clear hb5)
            | (go_at_call 48; (with_reducible refine (P0.out _).mono ?_); rintro e w6 ⟨rfl, hb6⟩; replace hw := below_then hw hb6; clear hb6)
            | (go_at_call 48; (with_reducible refine (P1.out _).mono ?_); rintro e w7 ⟨rfl, hb7⟩; replace hw := below_then hw hb7; clear hb7)
            | (go_at_call 49; (with_reducible refine (T2.out _).mono ?_); rintro e w8 ⟨rfl, hb8⟩; replace hw := below_then hw hb8; clear hb8)
            | (go_at_call 46; (with_reducible refine (Z2.out _).mono ?_); rintro e w9 ⟨rfl, hb9⟩; replace hw := below_then hw hb9; clear hb9)
            | (go_at_call 47; (with_reducible refine (K2.out _).mono ?_); rintro e w10 ⟨rfl, hb10⟩; replace hw := below_then hw hb10; clear hb10)
            | (go_at_call 47; (with_reducible refine (K.out _).mono ?_); rintro e w11 ⟨rfl, hb11⟩; replace hw := below_then hw hb11; clear hb11))
          go_ret
          exact ⟨ret_bool (by first | rfl | assumption | (simp; done) | (simp [*]; done)), hw⟩
    · rw [decide_eq_true h0, decide_eq_false h1] at B
      rcases hzb with rfl | ⟨z1, z2⟩
      · rw [if_pos rfl] at ht
        subst ht
        clear TT hzv
        go_enter Try.func11, Try.ntmps11
        go_wp2_with (first
          | (go_at_call 40; refine (L.out _).mono ?_; rintro e w1 ⟨rfl, hb1⟩; have hw := hb1; clear hb1)
          | (go_at_call 43; (with_reducible refine (RZ.out _).mono ?_); rintro e w2 ⟨rfl, hb2⟩; replace hw := below_then hw hb2; clear hb2)
          | (go_at_call 48; (with_reducible refine (RP.out _).mono ?_); rintro e w3 ⟨rfl, hb3⟩; replace hw := below_then hw hb3; clear hb3)
          | (go_at_call 49; (with_reducible refine (T.out _).mono ?_); rintro e w4 ⟨rfl, hb4⟩; replace hw := below_then hw hb4; clear hb4)
          | (go_at_call 50; (with_reducible refine (B.out _).mono ?_); rintro e w5 ⟨rfl, hb5⟩; replace hw := below_then hw hb5; clear hb5)
          | (go_at_call 48; (with_reducible refine (P0.out _).mono ?_); rintro e w6 ⟨rfl, hb6⟩; replace hw := below_then hw hb6; clear hb6)
          | (go_at_call 48; (with_reducible refine (P1.out _).mono ?_); rintro e w7 ⟨rfl, hb7⟩; replace hw := below_then hw hb7; clear hb7)
          | (go_at_call 49; (with_reducible refine (T2.out _).mono ?_); rintro e w8 ⟨rfl, hb8⟩; replace hw := below_then hw hb8; clear hb8)
          | (go_at_call 46; (with_reducible refine (Z2.out _).mono ?_); rintro e w9 ⟨rfl, hb9⟩; replace hw := below_then hw hb9; clear hb9)
          | (go_at_call 47; (with_reducible refine (K2.out _).mono ?_); rintro e w10 ⟨rfl, hb10⟩; replace hw := below_then hw hb10; clear hb10)
          | (go_at_call 47; (with_reducible refine (K.out _).mono ?_); rintro e w11 ⟨rfl, hb11⟩; replace hw := below_then hw hb11; clear hb11))
        go_ret
        exact ⟨ret_bool (by first | rfl | assumption | (simp; done) | (simp [*]; done)), hw⟩
      · rw [if_neg (by omega)] at ht
        subst ht
        have hv01 := hzv (by omega)
        clear hzv
        have v0 : 0 ≤ v := by omega
        have v1 : v ≤ 1 := by omega
        clear hv hv01
        by_cases ht0 : t < 0
        · clear TT
          go_enter Try.func11, Try.ntmps11
          go_wp2_with (first
            | (go_at_call 40; refine (L.out _).mono ?_; rintro e w1 ⟨rfl, hb1⟩; have hw := hb1; clear hb1)
            | (go_at_call 43; (with_reducible refine (RZ.out _).mono ?_); rintro e w2 ⟨rfl, hb2⟩; replace hw := below_then hw hb2; clear hb2)
            | (go_at_call 48; (with_reducible refine (RP.out _).mono ?_); rintro e w3 ⟨rfl, hb3⟩; replace hw := below_then hw hb3; clear hb3)
            | (go_at_call 49; (with_reducible refine (T.out _).mono ?_); rintro e w4 ⟨rfl, hb4⟩; replace hw := below_then hw hb4; clear hb4)
            | (go_at_call 50; (with_reducible refine (B.out _).mono ?_); rintro e w5 ⟨rfl, hb5⟩; replace hw := below_then hw hb5; clear hb5)
            | (go_at_call 48; (with_reducible refine (P0.out _).mono ?_); rintro e w6 ⟨rfl, hb6⟩; replace hw := below_then hw hb6; clear hb6)
            | (go_at_call 48; (with_reducible refine (P1.out _).mono ?_); rintro e w7 ⟨rfl, hb7⟩; replace hw := below_then hw hb7; clear hb7)
            | (go_at_call 49; (with_reducible refine (T2.out _).mono ?_); rintro e w8 ⟨rfl, hb8⟩; replace hw := below_then hw hb8; clear hb8)
            | (go_at_call 46; (with_reducible refine (Z2.out _).mono ?_); rintro e w9 ⟨rfl, hb9⟩; replace hw := below_then hw hb9; clear hb9)
            | (go_at_call 47; (with_reducible refine (K2.out _).mono ?_); rintro e w10 ⟨rfl, hb10⟩; replace hw := below_then hw hb10; clear hb10)
            | (go_at_call 47; (with_reducible refine (K.out _).mono ?_); rintro e w11 ⟨rfl, hb11⟩; replace hw := below_then hw hb11; clear hb11))
          go_ret
          exact ⟨ret_bool (by first | rfl | assumption | (simp; done) | (simp [*]; done)), hw⟩
        · obtain ⟨rfl, rfl, rfl, _⟩ := TT (by omega)
          have k1 : (c' == c') = true := by simp
          have k2 : (z' == z') = true := by simp
          have k3 : (k' == k') = true := by simp
          go_enter Try.func11, Try.ntmps11
          go_wp2_with (first
            | (go_at_call 40; refine (L.out _).mono ?_; rintro e w1 ⟨rfl, hb1⟩; have hw := hb1; clear hb1)
            | (go_at_call 43; (with_reducible refine (RZ.out _).mono ?_); rintro e w2 ⟨rfl, hb2⟩; replace hw := below_then hw hb2; clear hb2)
            | (go_at_call 48; (with_reducible refine (RP.out _).mono ?_); rintro e w3 ⟨rfl, hb3⟩; replace hw := below_then hw hb3; clear hb3)
            | (go_at_call 49; (with_reducible refine (T.out _).mono ?_); rintro e w4 ⟨rfl, hb4⟩; replace hw := below_then hw hb4; clear hb4)
            | (go_at_call 50; (with_reducible refine (B.out _).mono ?_); rintro e w5 ⟨rfl, hb5⟩; replace hw := below_then hw hb5; clear hb5)
            | (go_at_call 48; (with_reducible refine (P0.out _).mono ?_); rintro e w6 ⟨rfl, hb6⟩; replace hw := below_then hw hb6; clear hb6)
            | (go_at_call 48; (with_reducible refine (P1.out _).mono ?_); rintro e w7 ⟨rfl, hb7⟩; replace hw := below_then hw hb7; clear hb7)
            | (go_at_call 49; (with_reducible refine (T2.out _).mono ?_); rintro e w8 ⟨rfl, hb8⟩; replace hw := below_then hw hb8; clear hb8)
            | (go_at_call 46; (with_reducible refine (Z2.out _).mono ?_); rintro e w9 ⟨rfl, hb9⟩; replace hw := below_then hw hb9; clear hb9)
            | (go_at_call 47; (with_reducible refine (K2.out _).mono ?_); rintro e w10 ⟨rfl, hb10⟩; replace hw := below_then hw hb10; clear hb10)
            | (go_at_call 47; (with_reducible refine (K.out _).mono ?_); rintro e w11 ⟨rfl, hb11⟩; replace hw := below_then hw hb11; clear hb11))
          go_ret
          exact ⟨ret_bool (by first | rfl | assumption | (simp; done) | (simp [*]; done)), hw⟩
  · rw [decide_eq_false h0] at B
    rcases hzb with rfl | ⟨z1, z2⟩
    · rw [if_pos rfl] at ht
      subst ht
      clear TT hzv
      go_enter Try.func11, Try.ntmps11
      go_wp2_with (first
        | (go_at_call 40; refine (L.out _).mono ?_; rintro e w1 ⟨rfl, hb1⟩; have hw := hb1; clear hb1)
        | (go_at_call 43; (with_reducible refine (RZ.out _).mono ?_); rintro e w2 ⟨rfl, hb2⟩; replace hw := below_then hw hb2; clear hb2)
        | (go_at_call 48; (with_reducible refine (RP.out _).mono ?_); rintro e w3 ⟨rfl, hb3⟩; replace hw := below_then hw hb3; clear hb3)
        | (go_at_call 49; (with_reducible refine (T.out _).mono ?_); rintro e w4 ⟨rfl, hb4⟩; replace hw := below_then hw hb4; clear hb4)
        | (go_at_call 50; (with_reducible refine (B.out _).mono ?_); rintro e w5 ⟨rfl, hb5⟩; replace hw := below_then hw hb5; clear hb5)
        | (go_at_call 48; (with_reducible refine (P0.out _).mono ?_); rintro e w6 ⟨rfl, hb6⟩; replace hw := below_then hw hb6; clear hb6)
        | (go_at_call 48; (with_reducible refine (P1.out _).mono ?_); rintro e w7 ⟨rfl, hb7⟩; replace hw := below_then hw hb7; clear hb7)
        | (go_at_call 49; (with_reducible refine (T2.out _).mono ?_); rintro e w8 ⟨rfl, hb8⟩; replace hw := below_then hw hb8; clear hb8)
        | (go_at_call 46; (with_reducible refine (Z2.out _).mono ?_); rintro e w9 ⟨rfl, hb9⟩; replace hw := below_then hw hb9; clear hb9)
        | (go_at_call 47; (with_reducible refine (K2.out _).mono ?_); rintro e w10 ⟨rfl, hb10⟩; replace hw := below_then hw hb10; clear hb10)
        | (go_at_call 47; (with_reducible refine (K.out _).mono ?_); rintro e w11 ⟨rfl, hb11⟩; replace hw := below_then hw hb11; clear hb11))
      go_ret
      exact ⟨ret_bool (by first | rfl | assumption | (simp; done) | (simp [*]; done)), hw⟩
    · rw [if_neg (by omega)] at ht
      subst ht
      have hv01 := hzv (by omega)
      clear hzv
      have v0 : 0 ≤ v := by omega
      have v1 : v ≤ 1 := by omega
      clear hv hv01
      by_cases ht0 : t < 0
      · clear TT
        go_enter Try.func11, Try.ntmps11
        go_wp2_with (first
          | (go_at_call 40; refine (L.out _).mono ?_; rintro e w1 ⟨rfl, hb1⟩; have hw := hb1; clear hb1)
          | (go_at_call 43; (with_reducible refine (RZ.out _).mono ?_); rintro e w2 ⟨rfl, hb2⟩; replace hw := below_then hw hb2; clear hb2)
          | (go_at_call 48; (with_reducible refine (RP.out _).mono ?_); rintro e w3 ⟨rfl, hb3⟩; replace hw := below_then hw hb3; clear hb3)
          | (go_at_call 49; (with_reducible refine (T.out _).mono ?_); rintro e w4 ⟨rfl, hb4⟩; replace hw := below_then hw hb4; clear hb4)
          | (go_at_call 50; (with_reducible refine (B.out _).mono ?_); rintro e w5 ⟨rfl, hb5⟩; replace hw := below_then hw hb5; clear hb5)
          | (go_at_call 48; (with_reducible refine (P0.out _).mono ?_); rintro e w6 ⟨rfl, hb6⟩; replace hw := below_then hw hb6; clear hb6)
          | (go_at_call 48; (with_reducible refine (P1.out _).mono ?_); rintro e w7 ⟨rfl, hb7⟩; replace hw := below_then hw hb7; clear hb7)
          | (go_at_call 49; (with_reducible refine (T2.out _).mono ?_); rintro e w8 ⟨rfl, hb8⟩; replace hw := below_then hw hb8; clear hb8)
          | (go_at_call 46; (with_reducible refine (Z2.out _).mono ?_); rintro e w9 ⟨rfl, hb9⟩; replace hw := below_then hw hb9; clear hb9)
          | (go_at_call 47; (with_reducible refine (K2.out _).mono ?_); rintro e w10 ⟨rfl, hb10⟩; replace hw := below_then hw hb10; clear hb10)
          | (go_at_call 47; (with_reducible refine (K.out _).mono ?_); rintro e w11 ⟨rfl, hb11⟩; replace hw := below_then hw hb11; clear hb11))
        go_ret
        exact ⟨ret_bool (by first | rfl | assumption | (simp; done) | (simp [*]; done)), hw⟩
      · obtain ⟨rfl, rfl, rfl, _⟩ := TT (by omega)
        have k1 : (c' == c') = true := by simp
        have k2 : (z' == z') = true := by simp
        have k3 : (k' == k') = true := by simp
        go_enter Try.func11, Try.ntmps11
        go_wp2_with (first
          | (go_at_call 40; refine (L.out _).mono ?_; rintro e w1 ⟨rfl, hb1⟩; have hw := hb1; clear hb1)
          | (go_at_call 43; (with_reducible refine (RZ.out _).mono ?_); rintro e w2 ⟨rfl, hb2⟩; replace hw := below_then hw hb2; clear hb2)
          | (go_at_call 48; (with_reducible refine (RP.out _).mono ?_); rintro e w3 ⟨rfl, hb3⟩; replace hw := below_then hw hb3; clear hb3)
          | (go_at_call 49; (with_reducible refine (T.out _).mono ?_); rintro e w4 ⟨rfl, hb4⟩; replace hw := below_then hw hb4; clear hb4)
          | (go_at_call 50; (with_reducible refine (B.out _).mono ?_); rintro e w5 ⟨rfl, hb5⟩; replace hw := below_then hw hb5; clear hb5)
          | (go_at_call 48; (with_reducible refine (P0.out _).mono ?_); rintro e w6 ⟨rfl, hb6⟩; replace hw := below_then hw hb6; clear hb6)
          | (go_at_call 48; (with_reducible refine (P1.out _).mono ?_); rintro e w7 ⟨rfl, hb7⟩; replace hw := below_then hw hb7; clear hb7)
          | (go_at_call 49; (with_reducible refine (T2.out _).mono ?_); rintro e w8 ⟨rfl, hb8⟩; replace hw := below_then hw hb8; clear hb8)
          | (go_at_call 46; (with_reducible refine (Z2.out _).mono ?_); rintro e w9 ⟨rfl, hb9⟩; replace hw := below_then hw hb9; clear hb9)
          | (go_at_call 47; (with_reducible refine (K2.out _).mono ?_); rintro e w10 ⟨rfl, hb10⟩; replace hw := below_then hw hb10; clear hb10)
          | (go_at_call 47; (with_reducible refine (K.out _).mono ?_); rintro e w11 ⟨rfl, hb11⟩; replace hw := below_then hw hb11; clear hb11))
        go_ret
        exact ⟨ret_bool (by first | rfl | assumption | (simp; done) | (simp [*]; done)), hw⟩
end Go.Proofs.Ythkpfeikpmcpeaa.Tbb
