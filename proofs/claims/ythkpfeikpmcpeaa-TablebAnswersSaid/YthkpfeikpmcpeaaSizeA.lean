/- The contracts of package sizes: what each call returns. -/
import Derived.Test.YthkpfeikpmcpeaaProg
import Derived.Test.YthkpfeikpmcpeaaShelf
import Derived.Test.YthkpfeikpmcpeaaAidMem
import Derived.Test.YthkpfeikpmcpeaaAidI64
import Derived.Outline
set_option linter.unusedVariables false
namespace Go.Proofs.Ythkpfeikpmcpeaa.Sizes
open Go.RowKit Go.Proofs.Ythkpfeikpmcpeaa.Aid
theorem ret_two {k q : IntKind} {a b c d : Int} (h : a = b) (h' : c = d) : Ending.returned (.tuple #[.int k a, .int q c]) = .returned (.tuple #[.int k b, .int q d]) := by rw [h, h']
/-- A request as a size, and its error's number. -/
def lim (a : Int) : Int := if 1099511627776 < a then 0 else a
def limE (a : Int) : Int := if 1099511627776 < a then 14 else 0
theorem of_calls (a : Int) (h0 : 0 ≤ a) (w : World) : Calls Try.prog 25 #[.int .u64 a] w fun e w' => e = .returned (.tuple #[.int .i64 (lim a), .int .i64 (limE a)]) ∧ w = w' := by
  unfold lim limE
  by_cases h : 1099511627776 < a
  · rw [if_pos h, if_pos h]
    go_enter Try.func25, Try.ntmps25
    go_wp2
    go_ret2
    exact ⟨rfl, rfl⟩
  · rw [if_neg h, if_neg h]
    go_enter Try.func25, Try.ntmps25
    go_wp2
    go_ret2
    exact ⟨rfl, rfl⟩
theorem times_calls (a b : Nat) (ha : a < 18446744073709551616) (hb : b < 18446744073709551616) (w : World) :
    Calls Try.prog 26 #[.int .u64 a, .int .u64 b] w fun e w' => e = .returned (.tuple #[.int .i64 (lim ((a * b : Nat) : Int)), .int .i64 (limE ((a * b : Nat) : Int))]) ∧ w = w' := by
  by_cases h : a * b < 18446744073709551616
  · have e1 : a * b / 18446744073709551616 = 0 := Nat.div_eq_of_lt h
    have e2 : a * b % 18446744073709551616 = a * b := Nat.mod_eq_of_lt h
    have M : ∀ W, Calls Try.prog 55 #[.int .u64 a, .int .u64 b] W fun e w' => e = .returned (.tuple #[.int .u64 0, .int .u64 ((a * b : Nat) : Int)]) ∧ W = w' := fun W => by
      have := Try.bits_Mul64 a b ha hb W
      rw [e1, e2] at this
      exact this.mono fun e w' ⟨h1, h2⟩ => ⟨h1, h2.symm⟩
    have HM := Lib.hid M
    have O := Lib.hid (fun W => of_calls ((a * b : Nat) : Int) (Int.natCast_nonneg _) W)
    clear e1 e2 M
    generalize hc : a * b = c at HM O h ⊢
    clear hc
    go_enter Try.func26, Try.ntmps26
    go_wp2_with (first | (go_at_call 55; refine (HM.out _).mono ?_; rintro e w' ⟨rfl, rfl⟩) | (go_at_call 25; refine (O.out _).mono ?_; rintro e w' ⟨rfl, rfl⟩))
    go_ret2
    exact ⟨rfl, rfl⟩
  · have e1 : (((a * b / 18446744073709551616 : Nat) : Int) != 0) = true := by
      have : 0 < a * b / 18446744073709551616 := Nat.div_pos (by omega) (by decide)
      rw [bne_iff_ne]; omega
    have M := Lib.hid (fun W => Try.bits_Mul64 a b ha hb W)
    have l1 : lim ((a * b : Nat) : Int) = 0 := by unfold lim; rw [if_pos (by omega)]
    have l2 : limE ((a * b : Nat) : Int) = 14 := by unfold limE; rw [if_pos (by omega)]
    rw [l1, l2]
    clear l1 l2
    generalize a * b / 18446744073709551616 = c at M e1
    generalize a * b % 18446744073709551616 = d at M
    go_enter Try.func26, Try.ntmps26
    go_wp2_with (first | (go_at_call 55; refine (M.out _).mono ?_; rintro e w' ⟨rfl, rfl⟩))
    go_ret2
    exact ⟨rfl, rfl⟩
theorem is_calls (n : Int) (w : World) : Calls Try.prog 56 #[.int .i64 n] w fun e w' => e = .returned (.bool (decide (0 ≤ n ∧ n ≤ 1099511627776))) ∧ w = w' := by
  by_cases h : 0 ≤ n
  all_goals
    go_enter Try.func56, Try.ntmps56
    go_wp2
    go_ret
    exact ⟨ret_bool (by simp [*]; try omega), rfl⟩
theorem power_calls (n : Int) (w : World) : Calls Try.prog 35 #[.int .i64 n] w fun e w' => e = .returned (.bool (isPow n)) ∧ w = w' := by
  by_cases h : 1 ≤ n
  · by_cases h2 : n ≤ 1099511627776
    · have hp := Lib.hid (pow_test n h h2)
      go_enter Try.func35, Try.ntmps35
      go_wp2
      go_ret
      exact ⟨ret_bool hp.out, rfl⟩
    · have hp := Lib.hid (isPow_no (n := n) (by omega))
      go_enter Try.func35, Try.ntmps35
      go_wp2
      go_ret
      exact ⟨ret_bool hp.out.symm, rfl⟩
  · have hp := Lib.hid (isPow_no (n := n) (by omega))
    go_enter Try.func35, Try.ntmps35
    go_wp2
    go_ret
    exact ⟨ret_bool hp.out.symm, rfl⟩
/-- A number, rounded down, and its error's number. -/
def okN (n p : Int) : Bool := decide (0 ≤ n ∧ n ≤ 1099511627776) && isPow p
def downV (n p : Int) : Int := if okN n p = true then n / p * p else 0
def downE (n p : Int) : Int := if okN n p = true then 0 else 11
def upN (n p : Int) : Int := (n + p - 1) / p * p
def upV (n p : Int) : Int := if okN n p = true then (if 1099511627776 < upN n p then 0 else upN n p) else 0
def upE (n p : Int) : Int := if okN n p = true then (if 1099511627776 < upN n p then 14 else 0) else 11
theorem down_bits (n p : Int) (h0 : 0 ≤ n) (h1 : n < 9223372036854775808) (hp : isPow p = true) : Go.bits .andNot .i64 n (p - 1) = n / p * p := by
  obtain ⟨k, hk, rfl⟩ := (isPow_iff p).1 hp
  obtain ⟨a, rfl⟩ := Int.eq_ofNat_of_zero_le h0
  rw [i64_down a (by omega) k (by omega)]
  rw [Int.natCast_mul, Int.natCast_ediv]
theorem down_calls (n p : Int) (w : World) : Calls Try.prog 32 #[.int .i64 n, .int .i64 p] w fun e w' => e = .returned (.tuple #[.int .i64 (downV n p), .int .i64 (downE n p)]) ∧ w = w' := by
  by_cases hn : 0 ≤ n ∧ n ≤ 1099511627776
  · cases hp : isPow p
    · have e1 : downV n p = 0 := by unfold downV okN; rw [hp]; simp
      have e2 : downE n p = 11 := by unfold downE okN; rw [hp]; simp
      rw [e1, e2]
      clear e1 e2
      go_enter Try.func32, Try.ntmps32
      go_wp2_with (first | (go_at_call 56; refine (is_calls _ _).mono ?_; rintro e w' ⟨rfl, rfl⟩) | (go_at_call 35; refine (power_calls _ _).mono ?_; rintro e w' ⟨rfl, rfl⟩))
      go_ret2
      exact ⟨rfl, rfl⟩
    · have hok : okN n p = true := by unfold okN; rw [hp, decide_eq_true hn]; rfl
      have e1 : downV n p = n / p * p := by unfold downV; rw [if_pos hok]
      have e2 : downE n p = 0 := by unfold downE; rw [if_pos hok]
      have hb := isPow_bounds hp
      have hd := down_bits n p hn.1 (by omega) hp
      rw [e1, e2]
      clear e1 e2 hok
      have Hd := Lib.hid hd
      clear hd
      go_enter Try.func32, Try.ntmps32
      go_wp2_with (first | (go_at_call 56; refine (is_calls _ _).mono ?_; rintro e w' ⟨rfl, rfl⟩) | (go_at_call 35; refine (power_calls _ _).mono ?_; rintro e w' ⟨rfl, rfl⟩))
      go_ret2
      exact ⟨ret_two Hd.out rfl, rfl⟩
  · have e0 : decide (0 ≤ n ∧ n ≤ 1099511627776) = false := decide_eq_false hn
    have e1 : downV n p = 0 := by unfold downV okN; rw [e0]; simp
    have e2 : downE n p = 11 := by unfold downE okN; rw [e0]; simp
    rw [e1, e2]
    clear e1 e2
    go_enter Try.func32, Try.ntmps32
    go_wp2_with (first | (go_at_call 56; refine (is_calls _ _).mono ?_; rintro e w' ⟨rfl, rfl⟩))
    go_ret2
    exact ⟨rfl, rfl⟩
theorem up_calls (n p : Int) (w : World) : Calls Try.prog 30 #[.int .i64 n, .int .i64 p] w fun e w' => e = .returned (.tuple #[.int .i64 (upV n p), .int .i64 (upE n p)]) ∧ w = w' := by
  by_cases hn : 0 ≤ n ∧ n ≤ 1099511627776
  · cases hp : isPow p
    · have e1 : upV n p = 0 := by unfold upV okN; rw [hp]; simp
      have e2 : upE n p = 11 := by unfold upE okN; rw [hp]; simp
      rw [e1, e2]
      clear e1 e2
      go_enter Try.func30, Try.ntmps30
      go_wp2_with (first | (go_at_call 56; refine (is_calls _ _).mono ?_; rintro e w' ⟨rfl, rfl⟩) | (go_at_call 35; refine (power_calls _ _).mono ?_; rintro e w' ⟨rfl, rfl⟩))
      go_ret2
      exact ⟨rfl, rfl⟩
    · have hok : okN n p = true := by unfold okN; rw [hp, decide_eq_true hn]; rfl
      have hb := isPow_bounds hp
      have hd : Go.bits .andNot .i64 (n + p - 1) (p - 1) = upN n p := down_bits (n + p - 1) p (by omega) (by omega) hp
      by_cases hbig : 1099511627776 < upN n p
      · have e1 : upV n p = 0 := by unfold upV; rw [if_pos hok, if_pos hbig]
        have e2 : upE n p = 14 := by unfold upE; rw [if_pos hok, if_pos hbig]
        rw [e1, e2]
        clear e1 e2 hok
        generalize upN n p = u at hd hbig
        go_enter Try.func30, Try.ntmps30
        go_wp2_with (first | (go_at_call 56; refine (is_calls _ _).mono ?_; rintro e w' ⟨rfl, rfl⟩) | (go_at_call 35; refine (power_calls _ _).mono ?_; rintro e w' ⟨rfl, rfl⟩))
        go_ret2
        exact ⟨rfl, rfl⟩
      · have e1 : upV n p = upN n p := by unfold upV; rw [if_pos hok, if_neg hbig]
        have e2 : upE n p = 0 := by unfold upE; rw [if_pos hok, if_neg hbig]
        rw [e1, e2]
        clear e1 e2 hok
        generalize upN n p = u at hd hbig ⊢
        go_enter Try.func30, Try.ntmps30
        go_wp2_with (first | (go_at_call 56; refine (is_calls _ _).mono ?_; rintro e w' ⟨rfl, rfl⟩) | (go_at_call 35; refine (power_calls _ _).mono ?_; rintro e w' ⟨rfl, rfl⟩))
        go_ret2
        exact ⟨rfl, rfl⟩
  · have e0 : decide (0 ≤ n ∧ n ≤ 1099511627776) = false := decide_eq_false hn
    have e1 : upV n p = 0 := by unfold upV okN; rw [e0]; simp
    have e2 : upE n p = 11 := by unfold upE okN; rw [e0]; simp
    rw [e1, e2]
    clear e1 e2
    go_enter Try.func30, Try.ntmps30
    go_wp2_with (first | (go_at_call 56; refine (is_calls _ _).mono ?_; rintro e w' ⟨rfl, rfl⟩))
    go_ret2
    exact ⟨rfl, rfl⟩
/-- The exponent of the greatest power. -/
def logV (n : Int) : Int := if n < 1 then -1 else (Lib.bitLen n.toNat : Int) - 1
theorem bitLen_pos (a : Nat) (h : 1 ≤ a) (h' : a < 2 ^ 64) : 1 ≤ Lib.bitLen a := by
  rw [Lib.bitLen_half a (by omega) h']; omega
theorem bitLen_le (a : Nat) (h' : a < 2 ^ 64) : Lib.bitLen a ≤ 64 := by
  have : ∀ f x, Lib.bitLenAux f x ≤ f := by
    intro f
    induction f with
    | zero => intro x; simp [Lib.bitLenAux]
    | succ f ih =>
      intro x
      rw [Lib.bitLenAux]
      split
      · omega
      · have := ih (x / 2); omega
  exact this 64 a
theorem log_calls (n : Int) (hn : n < 9223372036854775808) (w : World) : Calls Try.prog 36 #[.int .i64 n] w fun e w' => e = .returned (.int .i64 (logV n)) ∧ w = w' := by
  unfold logV
  by_cases h : n < 1
  · rw [if_pos h]
    go_enter Try.func36, Try.ntmps36
    go_wp2
    go_ret
    exact ⟨rfl, rfl⟩
  · rw [if_neg h]
    have L : ∀ W, Calls Try.prog 57 #[.int .u64 n] W fun e w' => e = .returned (.int .i64 (Lib.bitLen n.toNat)) ∧ W = w' := fun W =>
      (Try.bits_Len64 n W (by omega) (by omega)).mono fun e w' ⟨h1, h2⟩ => ⟨h1, h2.symm⟩
    have HL := Lib.hid L
    have b1 := bitLen_pos n.toNat (by omega) (by omega)
    have b2 := bitLen_le n.toNat (by omega)
    clear L
    generalize Lib.bitLen n.toNat = c at HL b1 b2 ⊢
    go_enter Try.func36, Try.ntmps36
    go_wp2_with (first | (go_at_call 57; refine (HL.out _).mono ?_; rintro e w' ⟨rfl, rfl⟩))
    go_ret
    exact ⟨rfl, rfl⟩
/-- The greatest power that a number is a multiple of. -/
def grainV (n : Int) : Int := if n < 1 then 0 else Go.bits .and .i64 n (-n)
theorem grain_calls (n : Int) (hn : n < 9223372036854775808) (w : World) : Calls Try.prog 38 #[.int .i64 n] w fun e w' => e = .returned (.int .i64 (grainV n)) ∧ w = w' := by
  unfold grainV
  by_cases h : n < 1
  · rw [if_pos h]
    go_enter Try.func38, Try.ntmps38
    go_wp2
    go_ret
    exact ⟨rfl, rfl⟩
  · rw [if_neg h]
    go_enter Try.func38, Try.ntmps38
    go_wp2
    go_ret
    exact ⟨rfl, rfl⟩
def pagesV (n : Int) : Int := if 0 ≤ n ∧ n ≤ 1099511627776 then max ((n + 256 - 1) / 256) 1 else 0
def pagesE (n : Int) : Int := if 0 ≤ n ∧ n ≤ 1099511627776 then 0 else 11
theorem pages_calls (n : Int) (w : World) : Calls Try.prog 33 #[.int .i64 n] w fun e w' => e = .returned (.tuple #[.int .i64 (pagesV n), .int .i64 (pagesE n)]) ∧ w = w' := by
  unfold pagesV pagesE
  by_cases hn : 0 ≤ n ∧ n ≤ 1099511627776
  · rw [if_pos hn, if_pos hn]
    have h0 := hn.1
    have h1 := hn.2
    go_enter Try.func33, Try.ntmps33
    go_wp2_with (first | (go_at_call 56; refine (is_calls _ _).mono ?_; rintro e w' ⟨rfl, rfl⟩))
    go_ret2
    exact ⟨rfl, rfl⟩
  · rw [if_neg hn, if_neg hn]
    have e0 : decide (0 ≤ n ∧ n ≤ 1099511627776) = false := decide_eq_false hn
    go_enter Try.func33, Try.ntmps33
    go_wp2_with (first | (go_at_call 56; refine (is_calls _ _).mono ?_; rintro e w' ⟨rfl, rfl⟩))
    go_ret2
    exact ⟨rfl, rfl⟩
/-- The ones of a number of 64 bits, counted as the code counts them. -/
def ones1 (x : Int) : Int := IntKind.u64.wrap (Go.bits .and .u64 (x / 2) 6148914691236517205 + Go.bits .and .u64 x 6148914691236517205)
def ones2 (x : Int) : Int := IntKind.u64.wrap (Go.bits .and .u64 (ones1 x / 4) 3689348814741910323 + Go.bits .and .u64 (ones1 x) 3689348814741910323)
def ones3 (x : Int) : Int := Go.bits .and .u64 (IntKind.u64.wrap (ones2 x / 16 + ones2 x)) 1085102592571150095
def ones4 (x : Int) : Int := IntKind.u64.wrap (ones3 x + ones3 x / 256)
def ones5 (x : Int) : Int := IntKind.u64.wrap (ones4 x + ones4 x / 65536)
def ones6 (x : Int) : Int := IntKind.u64.wrap (ones5 x + ones5 x / 4294967296)
def onesV (x : Int) : Int := Go.bits .and .i64 (wrap64 (ones6 x)) 127
theorem ones_calls (x : Int) (w : World) : Calls Try.prog 53 #[.int .u64 x] w fun e w' => e = .returned (.int .i64 (onesV x)) ∧ w = w' := by
  go_enter Try.func53, Try.ntmps53
  go_wp2
  go_ret
  exact ⟨rfl, rfl⟩
end Go.Proofs.Ythkpfeikpmcpeaa.Sizes
