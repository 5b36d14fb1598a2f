/- Layer 1: the laws PackCuts and PackTurns, walked: they return true and leave old memory alone. -/
import Derived.Test.YtgilmpfohlpbdaaPackV
import Derived.Test.YtgilmpfohlpbdaaPackQ
import Derived.Outline
namespace Go.Proofs.Ytgilmpfohlpbdaa.Pack
open Go.RowKit Go.Proofs.Ytgilmpfohlpbdaa.Aid
/-- Fits, by what Signed and Unsigned answer. -/
theorem fits_signed (x n : Int) (hx : R x) : fitsB (wrap64 x) n true = ((signedR x n).2 && (IntKind.u64.wrap (signedR x n).1 == x)) := by
  unfold fitsB signedR
  by_cases h : wideB n = true
  · rw [if_pos h, h]
    have e1 : IntKind.u64.wrap (wrap64 x) = x := R_inj (R_wrap _) hx (by rw [B_wrap, B_wrap64])
    rw [e1]
    simp only [Bool.true_and]
    rw [Bool.eq_iff_iff, beq_iff_eq, beq_iff_eq]
    constructor
    · intro h; rw [h, e1]
    · intro h
      exact S_inj (S_signed _ _) (S_wrap64 _) (by rw [B_wrap64, ← B_wrap (signedV x n), h])
  · have h' : wideB n = false := by simpa using h
    rw [h', if_neg (by simp)]; simp
theorem fits_unsigned (x n : Int) (hx : R x) : fitsB (wrap64 x) n false = ((unsignedR (wrap64 x) n).2 && (unsignedR (wrap64 x) n).1 == x && decide (0 ≤ wrap64 x)) := by
  unfold fitsB unsignedR
  by_cases h : wideB n = true
  · rw [if_pos h, h]
    have e1 : IntKind.u64.wrap (wrap64 x) = x := R_inj (R_wrap _) hx (by rw [B_wrap, B_wrap64])
    rw [e1]
    simp only [Bool.true_and]
    rw [Bool.and_comm]
  · have h' : wideB n = false := by simpa using h
    rw [h', if_neg (by simp)]; simp
theorem fits_s (x n : Int) (hx : R x) (w : World) : Calls Try.prog 64 #[.int .i64 (wrap64 x), .int .i64 n, .bool true] w fun e w' => e = .returned (.bool ((signedR x n).2 && (IntKind.u64.wrap (signedR x n).1 == x))) ∧ w = w' := by
  rw [← fits_signed x n hx]; exact fits_calls _ _ _ _
theorem fits_u (x n : Int) (hx : R x) (w : World) : Calls Try.prog 64 #[.int .i64 (wrap64 x), .int .i64 n, .bool false] w fun e w' => e = .returned (.bool ((unsignedR (wrap64 x) n).2 && (unsignedR (wrap64 x) n).1 == x && decide (0 ≤ wrap64 x))) ∧ w = w' := by
  rw [← fits_unsigned x n hx]; exact fits_calls _ _ _ _
set_option maxRecDepth 100000 in
set_option maxHeartbeats 2000000 in
theorem cuts_walk (x n k : Int) (hx : 0 ≤ x ∧ x < 18446744073709551616) (_ : -9223372036854775808 ≤ n ∧ n < 9223372036854775808) (_ : -9223372036854775808 ≤ k ∧ k < 9223372036854775808) (w : World) :
    Calls Try.prog 10 #[.int .u64 x, .int .i64 n, .int .i64 k] w fun e w' => e = .returned (.bool true) ∧ Below w.heap.size w w' := by
  have Hx : Hid (R x) := Lib.hid (show R x from hx)
  clear hx
  go_enter Try.func10, Try.ntmps10
  go_wp2_with (first
    | (go_at_call 52; refine (alive_calls _).mono ?_; rintro e w1 ⟨rfl, hb1⟩)
    | (go_at_call 59; refine (signed_any _ _ _).mono ?_; rintro e w' ⟨rfl, rfl⟩)
    | (go_at_call 61; refine (unsigned_any _ _ _).mono ?_; rintro e w' ⟨rfl, rfl⟩)
    | (go_at_call 60; (with_reducible refine (rcut_signed _ _ Hx.out _).mono ?_); rintro e w' ⟨rfl, rfl⟩)
    | (go_at_call 60; (with_reducible refine (rcut_unsigned _ _ Hx.out _).mono ?_); rintro e w' ⟨rfl, rfl⟩)
    | (go_at_call 64; (with_reducible refine (fits_s _ _ Hx.out _).mono ?_); rintro e w' ⟨rfl, rfl⟩)
    | (go_at_call 64; (with_reducible refine (fits_u _ _ Hx.out _).mono ?_); rintro e w' ⟨rfl, rfl⟩)
    | (go_at_call 62; refine (rotate_any _ _ _ _).mono ?_; rintro e w2 ⟨rfl, hb2⟩)
    | (go_at_call 63; refine (rrotate_any _ _ _ Hx.out _).mono ?_; rintro e w3 ⟨rfl, hb3⟩))
  all_goals
    go_ret
    exact ⟨ret_bool (by simp [*]), below_then (below_then hb1 hb2) hb3⟩
set_option maxRecDepth 100000 in
set_option maxHeartbeats 2000000 in
theorem turns_walk (x n a b : Int) (_ : 0 ≤ x ∧ x < 18446744073709551616) (_ : -9223372036854775808 ≤ n ∧ n < 9223372036854775808) (_ : -9223372036854775808 ≤ a ∧ a < 9223372036854775808) (_ : -9223372036854775808 ≤ b ∧ b < 9223372036854775808) (w : World) :
    Calls Try.prog 12 #[.int .u64 x, .int .i64 n, .int .i64 a, .int .i64 b] w fun e w' => e = .returned (.bool true) ∧ Below w.heap.size w w' := by
  by_cases hw : wideB n = true
  · by_cases hab : -1000 ≤ a ∧ a ≤ 1000 ∧ -1000 ≤ b ∧ b ≤ 1000
    · obtain ⟨ha0, ha1, hb0, hb1⟩ := hab
      obtain ⟨h1, h2⟩ := wideB_true hw
      have eu : unsignedR (wrap64 x) n = (unsignedV (wrap64 x) n, true) := by unfold unsignedR; rw [if_pos hw]
      have es : signedR x n = (signedV x n, true) := by unfold signedR; rw [if_pos hw]
      have eu2 : unsignedR (signedV x n) n = (unsignedV (wrap64 x) n, true) := by unfold unsignedR; rw [if_pos hw, unsigned_signed x n h1 h2]
      have hc := unsigned_clean (wrap64 x) n h1 h2
      have hR := R_unsigned (wrap64 x) n
      have f1 := fits_cut x n hw
      have f2 : n < 64 → fitsB (wrap64 (unsignedV (wrap64 x) n)) n false = true := fun h => fits_cut' (wrap64 x) n hw h
      have r1 := rotR_yes (k := a) hw hc
      have hc' := rot_clean _ n a hR h1 h2 hc
      have r2 : rotR (rotV (unsignedV (wrap64 x) n) n (a % n)) n (-a) = (unsignedV (wrap64 x) n, true) := by
        rw [rotR_yes hw hc', rot_rot _ n a (-a) hR h1 h2 hc, show a + -a = 0 by omega, rot_none _ n 0 hR h1 h2 hc (by simp)]
      have r3 : rotR (rotV (unsignedV (wrap64 x) n) n (a % n)) n b = (rotV (unsignedV (wrap64 x) n) n ((a + b) % n), true) := by
        rw [rotR_yes hw hc', rot_rot _ n a b hR h1 h2 hc]
      have r4 := rotR_yes (k := a + b) hw hc
      generalize rotV (unsignedV (wrap64 x) n) n (a % n) = y at *
      generalize rotV (unsignedV (wrap64 x) n) n ((a + b) % n) = z at *
      generalize unsignedV (wrap64 x) n = v at *
      generalize signedV x n = s at *
      have Eu : ∀ W, Calls Try.prog 61 #[.int .i64 (wrap64 x), .int .i64 n] W fun e w' => e = .returned (.tuple #[.int .u64 v, .bool true]) ∧ W = w' := fun W => by
        have h := unsigned_any (wrap64 x) n W; rwa [eu] at h
      have Es : ∀ W, Calls Try.prog 59 #[.int .u64 x, .int .i64 n] W fun e w' => e = .returned (.tuple #[.int .i64 s, .bool true]) ∧ W = w' := fun W => by
        have h := signed_any x n W; rwa [es] at h
      have Eu2 : ∀ W, Calls Try.prog 61 #[.int .i64 s, .int .i64 n] W fun e w' => e = .returned (.tuple #[.int .u64 v, .bool true]) ∧ W = w' := fun W => by
        have h := unsigned_any s n W; rwa [eu2] at h
      have R1 : ∀ W, Calls Try.prog 62 #[.int .u64 v, .int .i64 n, .int .i64 a] W fun e w' => e = .returned (.tuple #[.int .u64 y, .bool true]) ∧ Below W.heap.size W w' := fun W => by
        have h := rotate_any v n a W; rwa [r1] at h
      have R2 : ∀ W, Calls Try.prog 62 #[.int .u64 y, .int .i64 n, .int .i64 (-a)] W fun e w' => e = .returned (.tuple #[.int .u64 v, .bool true]) ∧ Below W.heap.size W w' := fun W => by
        have h := rotate_any y n (-a) W; rwa [r2] at h
      have R3 : ∀ W, Calls Try.prog 62 #[.int .u64 y, .int .i64 n, .int .i64 b] W fun e w' => e = .returned (.tuple #[.int .u64 z, .bool true]) ∧ Below W.heap.size W w' := fun W => by
        have h := rotate_any y n b W; rwa [r3] at h
      have R4 : ∀ W, Calls Try.prog 62 #[.int .u64 v, .int .i64 n, .int .i64 (a + b)] W fun e w' => e = .returned (.tuple #[.int .u64 z, .bool true]) ∧ Below W.heap.size W w' := fun W => by
        have h := rotate_any v n (a + b) W; rwa [r4] at h
      have F1 : ∀ W, Calls Try.prog 64 #[.int .i64 s, .int .i64 n, .bool true] W fun e w' => e = .returned (.bool true) ∧ W = w' := fun W => by
        have h := fits_calls s n true W; rwa [f1] at h
      have F2 : n < 64 → ∀ W, Calls Try.prog 64 #[.int .i64 (wrap64 v), .int .i64 n, .bool false] W fun e w' => e = .returned (.bool true) ∧ W = w' := fun hn W => by
        have h := fits_calls (wrap64 v) n false W; rwa [f2 hn] at h
      have HEu := Lib.hid Eu
      have HEs := Lib.hid Es
      have HEu2 := Lib.hid Eu2
      have HR1 := Lib.hid R1
      have HR2 := Lib.hid R2
      have HR3 := Lib.hid R3
      have HR4 := Lib.hid R4
      have HF1 := Lib.hid F1
      have HF2 := Lib.hid F2
      clear Eu Es Eu2 R1 R2 R3 R4 F1 F2 eu es eu2 hc hR f1 f2 r1 hc' r2 r3 r4
      by_cases h64 : n < 64
      all_goals
        go_enter Try.func12, Try.ntmps12
        go_wp2_with (first
          | (go_at_call 52; refine (alive_calls _).mono ?_; rintro e w1 ⟨rfl, hq1⟩)
          | (go_at_call 61; (with_reducible refine (HEu.out _).mono ?_); rintro e w' ⟨rfl, rfl⟩))
        refine (HR1.out _).mono ?_
        rintro e w2 ⟨rfl, hq2⟩
        go_wp2_with fail
        refine (HR2.out _).mono ?_
        rintro e w3 ⟨rfl, hq3⟩
        go_wp2_with fail
        refine (HR3.out _).mono ?_
        rintro e w4 ⟨rfl, hq4⟩
        go_wp2_with fail
        refine (HR4.out _).mono ?_
        rintro e w5 ⟨rfl, hq5⟩
        go_wp2_with (first
          | (go_at_call 59; (with_reducible refine (HEs.out _).mono ?_); rintro e w' ⟨rfl, rfl⟩)
          | (go_at_call 61; (with_reducible refine (HEu2.out _).mono ?_); rintro e w' ⟨rfl, rfl⟩)
          | (go_at_call 64; (with_reducible refine (HF1.out _).mono ?_); rintro e w' ⟨rfl, rfl⟩)
          | (go_at_call 64; (with_reducible refine (HF2.out (by assumption) _).mono ?_); rintro e w' ⟨rfl, rfl⟩))
        go_ret
        exact ⟨rfl, below_then (below_then (below_then (below_then hq1 hq2) hq3) hq4) hq5⟩
    · have eu : unsignedR (wrap64 x) n = (unsignedV (wrap64 x) n, true) := by unfold unsignedR; rw [if_pos hw]
      have Eu : ∀ W, Calls Try.prog 61 #[.int .i64 (wrap64 x), .int .i64 n] W fun e w' => e = .returned (.tuple #[.int .u64 (unsignedV (wrap64 x) n), .bool true]) ∧ W = w' := fun W => by
        have h := unsigned_any (wrap64 x) n W; rwa [eu] at h
      have HEu := Lib.hid Eu
      clear eu Eu hw
      by_cases ha0 : a < -1000
      · clear hab
        go_enter Try.func12, Try.ntmps12
        go_wp2_with (first
          | (go_at_call 52; refine (alive_calls _).mono ?_; rintro e w1 ⟨rfl, hq1⟩)
          | (go_at_call 61; (with_reducible refine (HEu.out _).mono ?_); rintro e w' ⟨rfl, rfl⟩))
        go_ret
        exact ⟨rfl, hq1⟩
      · by_cases ha1 : 1000 < a
        · clear hab
          go_enter Try.func12, Try.ntmps12
          go_wp2_with (first
            | (go_at_call 52; refine (alive_calls _).mono ?_; rintro e w1 ⟨rfl, hq1⟩)
            | (go_at_call 61; (with_reducible refine (HEu.out _).mono ?_); rintro e w' ⟨rfl, rfl⟩))
          go_ret
          exact ⟨rfl, hq1⟩
        · by_cases hb0 : b < -1000
          · clear hab
            go_enter Try.func12, Try.ntmps12
            go_wp2_with (first
              | (go_at_call 52; refine (alive_calls _).mono ?_; rintro e w1 ⟨rfl, hq1⟩)
              | (go_at_call 61; (with_reducible refine (HEu.out _).mono ?_); rintro e w' ⟨rfl, rfl⟩))
            go_ret
            exact ⟨rfl, hq1⟩
          · have hb1 : 1000 < b := by omega
            clear hab
            go_enter Try.func12, Try.ntmps12
            go_wp2_with (first
              | (go_at_call 52; refine (alive_calls _).mono ?_; rintro e w1 ⟨rfl, hq1⟩)
              | (go_at_call 61; (with_reducible refine (HEu.out _).mono ?_); rintro e w' ⟨rfl, rfl⟩))
            go_ret
            exact ⟨rfl, hq1⟩
  · have eu : unsignedR (wrap64 x) n = (0, false) := by unfold unsignedR; rw [if_neg hw]
    have Eu : ∀ W, Calls Try.prog 61 #[.int .i64 (wrap64 x), .int .i64 n] W fun e w' => e = .returned (.tuple #[.int .u64 0, .bool false]) ∧ W = w' := fun W => by
      have h := unsigned_any (wrap64 x) n W; rwa [eu] at h
    have HEu := Lib.hid Eu
    clear eu Eu hw
    go_enter Try.func12, Try.ntmps12
    go_wp2_with (first
      | (go_at_call 52; refine (alive_calls _).mono ?_; rintro e w1 ⟨rfl, hq1⟩)
      | (go_at_call 61; (with_reducible refine (HEu.out _).mono ?_); rintro e w' ⟨rfl, rfl⟩))
    go_ret
    exact ⟨rfl, hq1⟩
end Go.Proofs.Ytgilmpfohlpbdaa.Pack
