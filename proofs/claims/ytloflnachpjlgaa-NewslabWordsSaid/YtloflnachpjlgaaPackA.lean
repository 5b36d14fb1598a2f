/- The contracts of package pack's functions on single words: what each call returns, and that it leaves old memory alone. -/
import Derived.Test.YtloflnachpjlgaaProg
import Derived.Test.YtloflnachpjlgaaAidMem
import Derived.Outline
namespace Go.Proofs.Ytloflnachpjlgaa.Pack
open Go.RowKit Go.Proofs.Ytloflnachpjlgaa.Aid
def wideB (n : Int) : Bool := decide (1 ≤ n ∧ n ≤ 64)
theorem wide_calls (n : Int) (w : World) : Calls Try.prog 98 #[.int .i64 n] w fun e w' => e = .returned (.bool (wideB n)) ∧ w = w' := by
  by_cases h : 1 ≤ n
  all_goals
    go_enter Try.func98, Try.ntmps98
    go_wp2
    go_ret
    exact ⟨ret_bool (by unfold wideB; simp; omega), rfl⟩
def maskV (n : Int) : Int := 18446744073709551615 / 2 ^ (64 - n).toNat
theorem mask_calls (n : Int) (h1 : 1 ≤ n) (h2 : n ≤ 64) (w : World) : Calls Try.prog 93 #[.int .i64 n] w fun e w' => e = .returned (.int .u64 (maskV n)) ∧ w = w' := by
  go_enter Try.func93, Try.ntmps93
  go_wp2
  go_ret
  exact ⟨ret_int rfl, rfl⟩
def rightB (s n : Int) : Bool := wideB n && decide (0 ≤ s ∧ s < 64 ∧ s ≤ 64 - n)
theorem wideB_true {n : Int} (h : wideB n = true) : 1 ≤ n ∧ n ≤ 64 := by unfold wideB at h; simpa using h
theorem rightB_true {s n : Int} (h : rightB s n = true) : 1 ≤ n ∧ n ≤ 64 ∧ 0 ≤ s ∧ s < 64 ∧ s ≤ 64 - n := by
  unfold rightB at h
  simp only [Bool.and_eq_true, decide_eq_true_eq] at h
  have := wideB_true h.1
  omega
theorem right_calls (s n : Int) (w : World) : Calls Try.prog 92 #[.agg #[.int .i64 s, .int .i64 n]] w fun e w' => e = .returned (.bool (rightB s n)) ∧ Below w.heap.size w w' := by
  by_cases hw : wideB n = true
  · have := wideB_true hw
    by_cases h0 : 0 ≤ s
    · by_cases h1 : s < 64
      all_goals
        go_enter Try.func92, Try.ntmps92
        go_wp2_with (go_at_call 98; refine (wide_calls _ _).mono ?_; rintro e w' ⟨rfl, rfl⟩)
        go_ret
        exact ⟨ret_bool (by simp [rightB, *]; try omega), (Below.refl _ _).alloc (Nat.le_refl _) _⟩
    · go_enter Try.func92, Try.ntmps92
      go_wp2_with (go_at_call 98; refine (wide_calls _ _).mono ?_; rintro e w' ⟨rfl, rfl⟩)
      go_ret
      exact ⟨ret_bool (by simp [rightB, *]; omega), (Below.refl _ _).alloc (Nat.le_refl _) _⟩
  · have hw' : wideB n = false := by simpa using hw
    go_enter Try.func92, Try.ntmps92
    go_wp2_with (go_at_call 98; refine (wide_calls _ _).mono ?_; rintro e w' ⟨rfl, rfl⟩)
    go_ret
    exact ⟨ret_bool (by simp [rightB, *]), (Below.refl _ _).alloc (Nat.le_refl _) _⟩
theorem get_calls (x s n : Int) (w : World) (h : rightB s n = true) :
    Calls Try.prog 81 #[.int .u64 x, .agg #[.int .i64 s, .int .i64 n]] w fun e w' => e = .returned (.tuple #[.int .u64 (Go.bits .and .u64 (x / 2 ^ s.toNat) (maskV n)), .bool true]) ∧ Below w.heap.size w w' := by
  obtain ⟨h1, h2, h3, h4, h5⟩ := rightB_true h
  go_enter Try.func81, Try.ntmps81
  go_wp2_with (go_at_call 92; refine (right_calls _ _ _).mono ?_; rintro e w1 ⟨rfl, hb1⟩; obtain ⟨hk0, hk1⟩ := box2 hb1)
  go_quiet ((go_at_call 93; exact quiet_left (mask_calls _ (by omega) (by omega) _)))
  go_wp2
  go_ret2
  exact ⟨rfl, below_drewN (below_box hb1) _⟩
theorem get_no (x s n : Int) (w : World) (h : rightB s n = false) :
    Calls Try.prog 81 #[.int .u64 x, .agg #[.int .i64 s, .int .i64 n]] w fun e w' => e = .returned (.tuple #[.int .u64 0, .bool false]) ∧ Below w.heap.size w w' := by
  go_enter Try.func81, Try.ntmps81
  go_wp2_with (go_at_call 92; refine (right_calls _ _ _).mono ?_; rintro e w1 ⟨rfl, hb1⟩)
  go_ret2
  exact ⟨rfl, below_box hb1⟩
def putV (x s n v : Int) : Int := Go.bits .or .u64 (Go.bits .andNot .u64 x (IntKind.u64.wrap (maskV n * 2 ^ s.toNat))) (IntKind.u64.wrap (v * 2 ^ s.toNat))
theorem put_calls (x s n v : Int) (w : World) (h : rightB s n = true) (hv : (Go.bits .andNot .u64 v (maskV n) != 0) = false) :
    Calls Try.prog 80 #[.int .u64 x, .agg #[.int .i64 s, .int .i64 n], .int .u64 v] w fun e w' => e = .returned (.tuple #[.int .u64 (putV x s n v), .bool true]) ∧ Below w.heap.size w w' := by
  obtain ⟨h1, h2, h3, h4, h5⟩ := rightB_true h
  go_enter Try.func80, Try.ntmps80
  go_wp2_with (first | (go_at_call 92; refine (right_calls _ _ _).mono ?_; rintro e w1 ⟨rfl, hb1⟩; obtain ⟨hk0, hk1⟩ := box2 hb1) | (go_at_call 93; refine (mask_calls _ (by omega) (by omega) _).mono ?_; rintro e w' ⟨rfl, rfl⟩))
  go_quiet ((go_at_call 93; exact quiet_left (mask_calls _ (by omega) (by omega) _)))
  go_wp2
  go_ret2
  exact ⟨rfl, below_drewN (below_box hb1) _⟩
theorem put_no (x s n v : Int) (w : World) (h : rightB s n = false ∨ (Go.bits .andNot .u64 v (maskV n) != 0) = true) :
    Calls Try.prog 80 #[.int .u64 x, .agg #[.int .i64 s, .int .i64 n], .int .u64 v] w fun e w' => e = .returned (.tuple #[.int .u64 0, .bool false]) ∧ Below w.heap.size w w' := by
  by_cases hr : rightB s n = true
  · have hv : (Go.bits .andNot .u64 v (maskV n) != 0) = true := h.resolve_left (by simp [hr])
    obtain ⟨h1, h2, h3, h4, h5⟩ := rightB_true hr
    clear h
    go_enter Try.func80, Try.ntmps80
    go_wp2_with (first | (go_at_call 92; refine (right_calls _ _ _).mono ?_; rintro e w1 ⟨rfl, hb1⟩; obtain ⟨hk0, hk1⟩ := box2 hb1) | (go_at_call 93; refine (mask_calls _ (by omega) (by omega) _).mono ?_; rintro e w' ⟨rfl, rfl⟩))
    go_ret2
    exact ⟨rfl, below_box hb1⟩
  · have hr' : rightB s n = false := by simpa using hr
    clear h
    go_enter Try.func80, Try.ntmps80
    go_wp2_with (go_at_call 92; refine (right_calls _ _ _).mono ?_; rintro e w1 ⟨rfl, hb1⟩)
    go_ret2
    exact ⟨rfl, below_box hb1⟩
def signedV (v n : Int) : Int := wrap64 (IntKind.u64.wrap (v * 2 ^ (64 - n).toNat)) / 2 ^ (64 - n).toNat
def unsignedV (v n : Int) : Int := Go.bits .and .u64 (IntKind.u64.wrap v) (maskV n)
/-- What Fits tells. -/
def fitsB (v n : Int) (sg : Bool) : Bool := wideB n && (match sg with | true => signedV (IntKind.u64.wrap v) n == v | false => decide (0 ≤ v) && (unsignedV v n == IntKind.u64.wrap v))
/-- A word turned round by so many bits. -/
def turn64 (x k : Int) : Int := Go.bits .or .u64 (IntKind.u64.wrap (x * 2 ^ k.toNat)) (x / 2 ^ (64 - k).toNat)
/-- A number turned round within a width. -/
def turnV (x n m : Int) : Int := Go.bits .and .u64 (Go.bits .or .u64 (IntKind.u64.wrap (x * 2 ^ m.toNat)) (x / 2 ^ (n - m).toNat)) (maskV n)
end Go.Proofs.Ytloflnachpjlgaa.Pack
