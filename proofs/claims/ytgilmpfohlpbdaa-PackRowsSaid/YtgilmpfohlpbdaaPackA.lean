/- The contracts of package pack's functions on single words: what each call returns, and that it leaves old memory alone. -/
import Derived.Test.YtgilmpfohlpbdaaProg
import Derived.Test.YtgilmpfohlpbdaaAidMem
import Derived.Outline
namespace Go.Proofs.Ytgilmpfohlpbdaa.Pack
open Go.RowKit Go.Proofs.Ytgilmpfohlpbdaa.Aid
def wideB (n : Int) : Bool := decide (1 ≤ n ∧ n ≤ 64)
theorem wide_calls (n : Int) (w : World) : Calls Try.prog 96 #[.int .i64 n] w fun e w' => e = .returned (.bool (wideB n)) ∧ w = w' := by
  by_cases h : 1 ≤ n
  all_goals
    go_enter Try.func96, Try.ntmps96
    go_wp2
    go_ret
    exact ⟨ret_bool (by unfold wideB; simp; omega), rfl⟩
def maskV (n : Int) : Int := 18446744073709551615 / 2 ^ (64 - n).toNat
theorem mask_calls (n : Int) (h1 : 1 ≤ n) (h2 : n ≤ 64) (w : World) : Calls Try.prog 93 #[.int .i64 n] w fun e w' => e = .returned (.int .u64 (maskV n)) ∧ w = w' := by
  go_enter Try.func93, Try.ntmps93
  go_wp2
  go_ret
  exact ⟨ret_int rfl, rfl⟩
def rightB (s n : Int) : Bool := wideB n && decide (0 ≤ s ∧ s < 64 ∧ s ≤ 64 - n)
theorem wideB_true {n : Int} (h : wideB n = true) : 1 ≤ n ∧ n ≤ 64 := by unfold wideB at h; simpa using h
theorem rightB_true {s n : Int} (h : rightB s n = true) : 1 ≤ n ∧ n ≤ 64 ∧ 0 ≤ s ∧ s < 64 ∧ s ≤ 64 - n := by
  unfold rightB at h
  simp only [Bool.and_eq_true, decide_eq_true_eq] at h
  have := wideB_true h.1
  omega
theorem right_calls (s n : Int) (w : World) : Calls Try.prog 57 #[.agg #[.int .i64 s, .int .i64 n]] w fun e w' => e = .returned (.bool (rightB s n)) ∧ Below w.heap.size w w' := by
  by_cases hw : wideB n = true
  · have := wideB_true hw
    by_cases h0 : 0 ≤ s
    · by_cases h1 : s < 64
      all_goals
        go_enter Try.func57, Try.ntmps57
        go_wp2_with (go_at_call 96; refine (wide_calls _ _).mono ?_; rintro e w' ⟨rfl, rfl⟩)
        go_ret
        exact ⟨ret_bool (by simp [rightB, *]; try omega), (Below.refl _ _).alloc (Nat.le_refl _) _⟩
    · go_enter Try.func57, Try.ntmps57
      go_wp2_with (go_at_call 96; refine (wide_calls _ _).mono ?_; rintro e w' ⟨rfl, rfl⟩)
      go_ret
      exact ⟨ret_bool (by simp [rightB, *]; omega), (Below.refl _ _).alloc (Nat.le_refl _) _⟩
  · have hw' : wideB n = false := by simpa using hw
    go_enter Try.func57, Try.ntmps57
    go_wp2_with (go_at_call 96; refine (wide_calls _ _).mono ?_; rintro e w' ⟨rfl, rfl⟩)
    go_ret
    exact ⟨ret_bool (by simp [rightB, *]), (Below.refl _ _).alloc (Nat.le_refl _) _⟩
theorem get_calls (x s n : Int) (w : World) (h : rightB s n = true) :
    Calls Try.prog 53 #[.int .u64 x, .agg #[.int .i64 s, .int .i64 n]] w fun e w' => e = .returned (.tuple #[.int .u64 (Go.bits .and .u64 (x / 2 ^ s.toNat) (maskV n)), .bool true]) ∧ Below w.heap.size w w' := by
  obtain ⟨h1, h2, h3, h4, h5⟩ := rightB_true h
  go_enter Try.func53, Try.ntmps53
  go_wp2_with (go_at_call 57; refine (right_calls _ _ _).mono ?_; rintro e w1 ⟨rfl, hb1⟩; obtain ⟨hk0, hk1⟩ := box2 hb1)
  go_quiet ((go_at_call 93; exact quiet_left (mask_calls _ (by omega) (by omega) _)))
  go_wp2
  go_ret2
  exact ⟨rfl, below_drewN (below_box hb1) _⟩
theorem get_no (x s n : Int) (w : World) (h : rightB s n = false) :
    Calls Try.prog 53 #[.int .u64 x, .agg #[.int .i64 s, .int .i64 n]] w fun e w' => e = .returned (.tuple #[.int .u64 0, .bool false]) ∧ Below w.heap.size w w' := by
  go_enter Try.func53, Try.ntmps53
  go_wp2_with (go_at_call 57; refine (right_calls _ _ _).mono ?_; rintro e w1 ⟨rfl, hb1⟩)
  go_ret2
  exact ⟨rfl, below_box hb1⟩
def putV (x s n v : Int) : Int := Go.bits .or .u64 (Go.bits .andNot .u64 x (IntKind.u64.wrap (maskV n * 2 ^ s.toNat))) (IntKind.u64.wrap (v * 2 ^ s.toNat))
theorem put_calls (x s n v : Int) (w : World) (h : rightB s n = true) (hv : (Go.bits .andNot .u64 v (maskV n) != 0) = false) :
    Calls Try.prog 55 #[.int .u64 x, .agg #[.int .i64 s, .int .i64 n], .int .u64 v] w fun e w' => e = .returned (.tuple #[.int .u64 (putV x s n v), .bool true]) ∧ Below w.heap.size w w' := by
  obtain ⟨h1, h2, h3, h4, h5⟩ := rightB_true h
  go_enter Try.func55, Try.ntmps55
  go_wp2_with (first | (go_at_call 57; refine (right_calls _ _ _).mono ?_; rintro e w1 ⟨rfl, hb1⟩; obtain ⟨hk0, hk1⟩ := box2 hb1) | (go_at_call 93; refine (mask_calls _ (by omega) (by omega) _).mono ?_; rintro e w' ⟨rfl, rfl⟩))
  go_quiet ((go_at_call 93; exact quiet_left (mask_calls _ (by omega) (by omega) _)))
  go_wp2
  go_ret2
  exact ⟨rfl, below_drewN (below_box hb1) _⟩
theorem put_no (x s n v : Int) (w : World) (h : rightB s n = false ∨ (Go.bits .andNot .u64 v (maskV n) != 0) = true) :
    Calls Try.prog 55 #[.int .u64 x, .agg #[.int .i64 s, .int .i64 n], .int .u64 v] w fun e w' => e = .returned (.tuple #[.int .u64 0, .bool false]) ∧ Below w.heap.size w w' := by
  by_cases hr : rightB s n = true
  · have hv : (Go.bits .andNot .u64 v (maskV n) != 0) = true := h.resolve_left (by simp [hr])
    obtain ⟨h1, h2, h3, h4, h5⟩ := rightB_true hr
    clear h
    go_enter Try.func55, Try.ntmps55
    go_wp2_with (first | (go_at_call 57; refine (right_calls _ _ _).mono ?_; rintro e w1 ⟨rfl, hb1⟩; obtain ⟨hk0, hk1⟩ := box2 hb1) | (go_at_call 93; refine (mask_calls _ (by omega) (by omega) _).mono ?_; rintro e w' ⟨rfl, rfl⟩))
    go_ret2
    exact ⟨rfl, below_box hb1⟩
  · have hr' : rightB s n = false := by simpa using hr
    clear h
    go_enter Try.func55, Try.ntmps55
    go_wp2_with (go_at_call 57; refine (right_calls _ _ _).mono ?_; rintro e w1 ⟨rfl, hb1⟩)
    go_ret2
    exact ⟨rfl, below_box hb1⟩
def signedV (v n : Int) : Int := wrap64 (IntKind.u64.wrap (v * 2 ^ (64 - n).toNat)) / 2 ^ (64 - n).toNat
theorem signed_calls (v n : Int) (w : World) (h : wideB n = true) :
    Calls Try.prog 59 #[.int .u64 v, .int .i64 n] w fun e w' => e = .returned (.tuple #[.int .i64 (signedV v n), .bool true]) ∧ w = w' := by
  obtain ⟨h1, h2⟩ := wideB_true h
  go_enter Try.func59, Try.ntmps59
  go_wp2_with (go_at_call 96; refine (wide_calls _ _).mono ?_; rintro e w' ⟨rfl, rfl⟩)
  go_ret2
  exact ⟨rfl, rfl⟩
theorem signed_no (v n : Int) (w : World) (h : wideB n = false) :
    Calls Try.prog 59 #[.int .u64 v, .int .i64 n] w fun e w' => e = .returned (.tuple #[.int .i64 0, .bool false]) ∧ w = w' := by
  go_enter Try.func59, Try.ntmps59
  go_wp2_with (go_at_call 96; refine (wide_calls _ _).mono ?_; rintro e w' ⟨rfl, rfl⟩)
  go_ret2
  exact ⟨rfl, rfl⟩
def unsignedV (v n : Int) : Int := Go.bits .and .u64 (IntKind.u64.wrap v) (maskV n)
theorem unsigned_calls (v n : Int) (w : World) (h : wideB n = true) :
    Calls Try.prog 61 #[.int .i64 v, .int .i64 n] w fun e w' => e = .returned (.tuple #[.int .u64 (unsignedV v n), .bool true]) ∧ w = w' := by
  obtain ⟨h1, h2⟩ := wideB_true h
  go_enter Try.func61, Try.ntmps61
  go_wp2_with (first | (go_at_call 96; refine (wide_calls _ _).mono ?_; rintro e w' ⟨rfl, rfl⟩) | (go_at_call 93; refine (mask_calls _ (by omega) (by omega) _).mono ?_; rintro e w' ⟨rfl, rfl⟩))
  go_ret2
  exact ⟨rfl, rfl⟩
theorem unsigned_no (v n : Int) (w : World) (h : wideB n = false) :
    Calls Try.prog 61 #[.int .i64 v, .int .i64 n] w fun e w' => e = .returned (.tuple #[.int .u64 0, .bool false]) ∧ w = w' := by
  go_enter Try.func61, Try.ntmps61
  go_wp2_with (go_at_call 96; refine (wide_calls _ _).mono ?_; rintro e w' ⟨rfl, rfl⟩)
  go_ret2
  exact ⟨rfl, rfl⟩
/-- What Fits tells. -/
def fitsB (v n : Int) (sg : Bool) : Bool := wideB n && (match sg with | true => signedV (IntKind.u64.wrap v) n == v | false => decide (0 ≤ v) && (unsignedV v n == IntKind.u64.wrap v))
theorem fits_calls (v n : Int) (sg : Bool) (w : World) : Calls Try.prog 64 #[.int .i64 v, .int .i64 n, .bool sg] w fun e w' => e = .returned (.bool (fitsB v n sg)) ∧ w = w' := by
  by_cases hw : wideB n = true
  · cases sg
    · by_cases h0 : 0 ≤ v
      all_goals
        go_enter Try.func64, Try.ntmps64
        go_wp2_with (go_at_call 61; refine (unsigned_calls _ _ _ hw).mono ?_; rintro e w' ⟨rfl, rfl⟩)
        go_ret
        exact ⟨ret_bool (by simp [fitsB, *]; try omega), rfl⟩
    · go_enter Try.func64, Try.ntmps64
      go_wp2_with (go_at_call 59; refine (signed_calls _ _ _ hw).mono ?_; rintro e w' ⟨rfl, rfl⟩)
      go_ret
      exact ⟨ret_bool (by simp [fitsB, *]), rfl⟩
  · have hw' : wideB n = false := by simpa using hw
    cases sg
    · go_enter Try.func64, Try.ntmps64
      go_wp2_with (go_at_call 61; refine (unsigned_no _ _ _ hw').mono ?_; rintro e w' ⟨rfl, rfl⟩)
      go_ret
      exact ⟨ret_bool (by simp [fitsB, *]), rfl⟩
    · go_enter Try.func64, Try.ntmps64
      go_wp2_with (go_at_call 59; refine (signed_no _ _ _ hw').mono ?_; rintro e w' ⟨rfl, rfl⟩)
      go_ret
      exact ⟨ret_bool (by simp [fitsB, *]), rfl⟩
/-- A word turned round by so many bits. -/
def turn64 (x k : Int) : Int := Go.bits .or .u64 (IntKind.u64.wrap (x * 2 ^ k.toNat)) (x / 2 ^ (64 - k).toNat)
theorem turn64_calls (x k m : Int) (w : World) (hm : m = Go.bits .and .u64 (IntKind.u64.wrap k) 63) (h0 : 0 ≤ m) (h1 : m < 64) :
    Calls Try.prog 97 #[.int .u64 x, .int .i64 k] w fun e w' => e = .returned (.int .u64 (turn64 x m)) ∧ w = w' := by
  have hm' := hm.symm
  clear hm
  go_enter Try.func97, Try.ntmps97
  go_wp2
  go_ret
  exact ⟨rfl, rfl⟩
theorem rotate_no (x n k : Int) (w : World) (h : wideB n = false ∨ (Go.bits .andNot .u64 x (maskV n) != 0) = true) :
    Calls Try.prog 62 #[.int .u64 x, .int .i64 n, .int .i64 k] w fun e w' => e = .returned (.tuple #[.int .u64 0, .bool false]) ∧ w = w' := by
  by_cases hw : wideB n = true
  · have hv := h.resolve_left (by simp [hw])
    have := wideB_true hw
    clear h
    go_enter Try.func62, Try.ntmps62
    go_wp2_with (first | (go_at_call 96; refine (wide_calls _ _).mono ?_; rintro e w' ⟨rfl, rfl⟩) | (go_at_call 93; refine (mask_calls _ (by omega) (by omega) _).mono ?_; rintro e w' ⟨rfl, rfl⟩))
    go_ret2
    exact ⟨rfl, rfl⟩
  · have hw' : wideB n = false := by simpa using hw
    clear h
    go_enter Try.func62, Try.ntmps62
    go_wp2_with (first | (go_at_call 96; refine (wide_calls _ _).mono ?_; rintro e w' ⟨rfl, rfl⟩))
    go_ret2
    exact ⟨rfl, rfl⟩
theorem rotate64 (x k t m : Int) (w : World) (hv : (Go.bits .andNot .u64 x (maskV 64) != 0) = false) (ht : k.tmod 64 = t) (hm : m = Go.bits .and .u64 (IntKind.u64.wrap t) 63) (h0 : 0 ≤ m) (h1 : m < 64) :
    Calls Try.prog 62 #[.int .u64 x, .int .i64 64, .int .i64 k] w fun e w' => e = .returned (.tuple #[.int .u64 (turn64 x m), .bool true]) ∧ w = w' := by
  have hw : wideB 64 = true := by decide
  have Hm := Lib.hid hm
  clear hm
  go_enter Try.func62, Try.ntmps62
  go_wp2_with (first | (go_at_call 96; refine (wide_calls _ _).mono ?_; rintro e w' ⟨rfl, rfl⟩) | (go_at_call 93; refine (mask_calls _ (by omega) (by omega) _).mono ?_; rintro e w' ⟨rfl, rfl⟩) | (go_at_call 97; refine (turn64_calls _ _ _ _ Hm.out h0 h1).mono ?_; rintro e w' ⟨rfl, rfl⟩))
  go_ret2
  exact ⟨rfl, rfl⟩
/-- A number turned round within a width. -/
def turnV (x n m : Int) : Int := Go.bits .and .u64 (Go.bits .or .u64 (IntKind.u64.wrap (x * 2 ^ m.toNat)) (x / 2 ^ (n - m).toNat)) (maskV n)
theorem rotate_calls (x n k t : Int) (w : World) (hw : wideB n = true) (h64 : (n == 64) = false) (hv : (Go.bits .andNot .u64 x (maskV n) != 0) = false) (ht : k.tmod n = t) (h0 : 0 ≤ t + n) (h1 : t + n ≤ 128) (h2 : 0 ≤ (t + n) % n) (h3 : (t + n) % n < n) :
    Calls Try.prog 62 #[.int .u64 x, .int .i64 n, .int .i64 k] w fun e w' => e = .returned (.tuple #[.int .u64 (turnV x n ((t + n) % n)), .bool true]) ∧ Below w.heap.size w w' := by
  obtain ⟨h4, h5⟩ := wideB_true hw
  go_enter Try.func62, Try.ntmps62
  go_wp2_with (first | (go_at_call 96; refine (wide_calls _ _).mono ?_; rintro e w' ⟨rfl, rfl⟩) | (go_at_call 93; refine (mask_calls _ (by omega) (by omega) _).mono ?_; rintro e w' ⟨rfl, rfl⟩))
  generalize hm : (t + n) % n = m at h2 h3 ⊢
  have Hm := Lib.hid hm
  clear hm
  have h6 : IntKind.i64.wrap (n - m) = n - m := IntWalk.i64_in _ (by omega)
  have h7 : 0 ≤ n - m := by omega
  go_quiet ((go_at_call 93; exact quiet_left (mask_calls _ (by omega) (by omega) _)))
  go_wp2
  go_ret2
  exact ⟨ret_pair (by rw [Hm.out]; rfl) rfl, below_drewN (Below.refl _ _) _⟩
end Go.Proofs.Ytgilmpfohlpbdaa.Pack
