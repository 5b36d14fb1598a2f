/- The contracts of the reference of layer 1 (package underpinref01) on single words: what each call returns, and that it leaves old memory alone. -/
import Derived.Test.YtgilmpfohlpbdaaProg
import Derived.Test.YtgilmpfohlpbdaaAidMem
import Derived.Test.YtgilmpfohlpbdaaPackA
import Derived.Test.YtgilmpfohlpbdaaAidBits
import Derived.Outline
namespace Go.Proofs.Ytgilmpfohlpbdaa.Pack
open Go.RowKit Go.Proofs.Ytgilmpfohlpbdaa.Aid
def rrightB (s n : Int) : Bool := decide (1 ≤ n ∧ n ≤ 64 ∧ 0 ≤ s ∧ s ≤ 63 ∧ s + n ≤ 64)
theorem rright_calls (s n : Int) (w : World) : Calls Try.prog 58 #[.agg #[.int .i64 s, .int .i64 n]] w fun e w' => e = .returned (.bool (rrightB s n)) ∧ Below w.heap.size w w' := by
  by_cases h1 : 1 ≤ n
  · by_cases h2 : n ≤ 64
    · by_cases h3 : 0 ≤ s
      · by_cases h4 : s ≤ 63
        all_goals
          go_enter Try.func58, Try.ntmps58
          go_wp2
          go_ret
          exact ⟨ret_bool (by simp [rrightB, *]; try omega), (Below.refl _ _).alloc (Nat.le_refl _) _⟩
      · go_enter Try.func58, Try.ntmps58
        go_wp2
        go_ret
        exact ⟨ret_bool (by simp [rrightB, *]; try omega), (Below.refl _ _).alloc (Nat.le_refl _) _⟩
    · go_enter Try.func58, Try.ntmps58
      go_wp2
      go_ret
      exact ⟨ret_bool (by simp [rrightB, *]; try omega), (Below.refl _ _).alloc (Nat.le_refl _) _⟩
  · go_enter Try.func58, Try.ntmps58
    go_wp2
    go_ret
    exact ⟨ret_bool (by simp [rrightB, *]; try omega), (Below.refl _ _).alloc (Nat.le_refl _) _⟩
theorem rrightB_true {s n : Int} (h : rrightB s n = true) : 1 ≤ n ∧ n ≤ 64 ∧ 0 ≤ s ∧ s ≤ 63 ∧ s + n ≤ 64 := by simpa [rrightB] using h
def bitV (x n : Int) : Int := Go.bits .and .u64 (x / 2 ^ n.toNat) 1
theorem bit_calls (x n : Int) (h0 : 0 ≤ n) (h1 : n ≤ 63) (w : World) : Calls Try.prog 94 #[.int .u64 x, .int .i64 n] w fun e w' => e = .returned (.int .u64 (bitV x n)) ∧ w = w' := by
  go_enter Try.func94, Try.ntmps94
  go_wp2
  go_ret
  exact ⟨ret_int rfl, rfl⟩
/-- What ref.Get gathers: d rounds from i on. -/
def getGo (x s : Int) : Nat → Int → Int → Int
  | 0, _, o => o
  | d + 1, i, o => getGo x s d (i + 1) (Go.bits .or .u64 o (IntKind.u64.wrap (bitV x (s + i) * 2 ^ i.toNat)))
theorem getGo_end (x s o : Int) {d : Nat} {i n : Int} (hd : n - i = d) (h : ¬ i < n) : getGo x s d i o = o := by
  obtain rfl : d = 0 := by omega
  rfl
theorem rget_calls (x s n : Int) (w : World) (h : rrightB s n = true) :
    Calls Try.prog 54 #[.int .u64 x, .agg #[.int .i64 s, .int .i64 n]] w fun e w' => e = .returned (.tuple #[.int .u64 (getGo x s n.toNat 0 0), .bool true]) ∧ Below w.heap.size w w' := by
  obtain ⟨h1, h2, h3, h4, h5⟩ := rrightB_true h
  obtain ⟨N, rfl⟩ := Int.eq_ofNat_of_zero_le (show 0 ≤ n by omega)
  rw [Int.toNat_natCast]
  go_enter Try.func54, Try.ntmps54
  go_wp2_with (go_at_call 58; refine (rright_calls _ _ _).mono ?_; rintro e w1 ⟨rfl, hb1⟩; obtain ⟨hk0, hk1⟩ := box2 hb1)
  go_loop [6, 7] (fun o i => ∃ (a : Int) (k : Nat), o = .int .u64 a ∧ i = .int .i64 k ∧ k ≤ N ∧ getGo x s N 0 0 = getGo x s (N - k) k a) (fun _ i => N - (intOf i).toNat)
  case atStart => exact ⟨0, 0, rfl, rfl, by omega, rfl⟩
  case round =>
    obtain ⟨a, k, rfl, rfl, hk, hg⟩ := hrel
    have Hg := Lib.hid hg
    clear hg
    by_cases hlt : k < N
    · go_wp2_with (go_at_call 94; refine (bit_calls _ _ (by omega) (by omega) _).mono ?_; rintro e w' ⟨rfl, rfl⟩)
      go_round
      case rel => exact ⟨_, k + 1, rfl, by go_num, by omega, by rw [Hg.out, show N - k = (N - (k + 1)) + 1 from by omega]; rfl⟩
      case measure => simp [intOf]; omega
    · go_wp2
      go_ret2
      exact ⟨by rw [Hg.out, getGo_end x s a (n := N) (by omega) (by omega)]; rfl, below_box hb1⟩
/-- What ref.above tells: d rounds from i on. -/
def aboveGo (x : Int) : Nat → Int → Bool
  | 0, _ => false
  | d + 1, i => bitV x i == 1 || aboveGo x d (i + 1)
theorem aboveGo_end (x : Int) {d : Nat} {i n : Int} (hd : n - i = d) (h : ¬ i < n) : aboveGo x d i = false := by
  obtain rfl : d = 0 := by omega
  rfl
theorem above_calls (x n : Int) (h0 : 0 ≤ n) (h1 : n ≤ 64) (w : World) :
    Calls Try.prog 95 #[.int .u64 x, .int .i64 n] w fun e w' => e = .returned (.bool (aboveGo x (64 - n).toNat n)) ∧ w = w' := by
  obtain ⟨N, rfl⟩ := Int.eq_ofNat_of_zero_le h0
  rw [show (64 - (N : Int)).toNat = 64 - N from by omega]
  go_enter Try.func95, Try.ntmps95
  go_wp2
  go_loop [5] (fun i => ∃ (k : Nat), i = .int .i64 k ∧ k ≤ 64 ∧ aboveGo x (64 - N) N = aboveGo x (64 - k) k) (fun i => 64 - (intOf i).toNat)
  case atStart => exact ⟨N, rfl, by omega, rfl⟩
  case round =>
    obtain ⟨k, rfl, hk, hg⟩ := hrel
    have Hg := Lib.hid hg
    clear hg
    by_cases hlt : k < 64
    · cases hb : (bitV x k == 1)
      · go_wp2_with (go_at_call 94; refine (bit_calls _ _ (by omega) (by omega) _).mono ?_; rintro e w' ⟨rfl, rfl⟩)
        go_round
        case rel => exact ⟨k + 1, by go_num, by omega, by rw [Hg.out, show 64 - k = (64 - (k + 1)) + 1 from by omega]; simp only [aboveGo, hb]; rfl⟩
        case measure => simp [intOf]; omega
      · go_wp2_with (go_at_call 94; refine (bit_calls _ _ (by omega) (by omega) _).mono ?_; rintro e w' ⟨rfl, rfl⟩)
        go_ret
        exact ⟨ret_bool (by rw [Hg.out, show 64 - k = (64 - (k + 1)) + 1 from by omega]; simp only [aboveGo, hb]; rfl), rfl⟩
    · go_wp2
      go_ret
      exact ⟨ret_bool (by rw [Hg.out, aboveGo_end x (n := 64) (by omega) (by omega)]), rfl⟩
/-- What ref.Put gathers: d rounds from i on. -/
def putGo (x s n v : Int) : Nat → Int → Int → Int
  | 0, _, o => o
  | d + 1, i, o => putGo x s n v d (i + 1) (Go.bits .or .u64 o (IntKind.u64.wrap ((if s ≤ i ∧ i < s + n then bitV v (i - s) else bitV x i) * 2 ^ i.toNat)))
theorem putGo_end (x s n v o : Int) {d : Nat} {i m : Int} (hd : m - i = d) (h : ¬ i < m) : putGo x s n v d i o = o := by
  obtain rfl : d = 0 := by omega
  rfl
theorem putGo_in {x s n v o : Int} {d : Nat} {i : Int} (h : s ≤ i ∧ i < s + n) : putGo x s n v (d + 1) i o = putGo x s n v d (i + 1) (Go.bits .or .u64 o (IntKind.u64.wrap (bitV v (i - s) * 2 ^ i.toNat))) := by
  simp only [putGo, if_pos h]
theorem putGo_out {x s n v o : Int} {d : Nat} {i : Int} (h : ¬ (s ≤ i ∧ i < s + n)) : putGo x s n v (d + 1) i o = putGo x s n v d (i + 1) (Go.bits .or .u64 o (IntKind.u64.wrap (bitV x i * 2 ^ i.toNat))) := by
  simp only [putGo, if_neg h]
theorem rput_no (x s n v : Int) (w : World) (h : rrightB s n = false ∨ aboveGo v (64 - n).toNat n = true) :
    Calls Try.prog 56 #[.int .u64 x, .agg #[.int .i64 s, .int .i64 n], .int .u64 v] w fun e w' => e = .returned (.tuple #[.int .u64 0, .bool false]) ∧ Below w.heap.size w w' := by
  by_cases hr : rrightB s n = true
  · have hv := h.resolve_left (by simp [hr])
    obtain ⟨h1, h2, h3, h4, h5⟩ := rrightB_true hr
    clear h
    go_enter Try.func56, Try.ntmps56
    go_wp2_with (first | (go_at_call 58; refine (rright_calls _ _ _).mono ?_; rintro e w1 ⟨rfl, hb1⟩; obtain ⟨hk0, hk1⟩ := box2 hb1) | (go_at_call 95; refine (above_calls _ _ (by omega) (by omega) _).mono ?_; rintro e w' ⟨rfl, rfl⟩))
    go_ret2
    exact ⟨rfl, below_box hb1⟩
  · have hr' : rrightB s n = false := by simpa using hr
    clear h
    go_enter Try.func56, Try.ntmps56
    go_wp2_with (first | (go_at_call 58; refine (rright_calls _ _ _).mono ?_; rintro e w1 ⟨rfl, hb1⟩; obtain ⟨hk0, hk1⟩ := box2 hb1))
    go_ret2
    exact ⟨rfl, below_box hb1⟩
theorem rget_no (x s n : Int) (w : World) (h : rrightB s n = false) :
    Calls Try.prog 54 #[.int .u64 x, .agg #[.int .i64 s, .int .i64 n]] w fun e w' => e = .returned (.tuple #[.int .u64 0, .bool false]) ∧ Below w.heap.size w w' := by
  go_enter Try.func54, Try.ntmps54
  go_wp2_with (first | (go_at_call 58; refine (rright_calls _ _ _).mono ?_; rintro e w1 ⟨rfl, hb1⟩; obtain ⟨hk0, hk1⟩ := box2 hb1))
  go_ret2
  exact ⟨rfl, below_box hb1⟩
theorem rput_calls (x s n v : Int) (w : World) (h : rrightB s n = true) (hv : aboveGo v (64 - n).toNat n = false) :
    Calls Try.prog 56 #[.int .u64 x, .agg #[.int .i64 s, .int .i64 n], .int .u64 v] w fun e w' => e = .returned (.tuple #[.int .u64 (putGo x s n v 64 0 0), .bool true]) ∧ Below w.heap.size w w' := by
  obtain ⟨h1, h2, h3, h4, h5⟩ := rrightB_true h
  go_enter Try.func56, Try.ntmps56
  go_wp2_with (first | (go_at_call 58; refine (rright_calls _ _ _).mono ?_; rintro e w1 ⟨rfl, hb1⟩; obtain ⟨hk0, hk1⟩ := box2 hb1) | (go_at_call 95; refine (above_calls _ _ (by omega) (by omega) _).mono ?_; rintro e w' ⟨rfl, rfl⟩))
  go_loop [8, 9] (fun o i => ∃ (a : Int) (k : Nat), o = .int .u64 a ∧ i = .int .i64 k ∧ k ≤ 64 ∧ putGo x s n v 64 0 0 = putGo x s n v (64 - k) k a) (fun _ i => 64 - (intOf i).toNat)
  case atStart => exact ⟨0, 0, rfl, rfl, by omega, rfl⟩
  case round =>
    obtain ⟨a, k, rfl, rfl, hk, hg⟩ := hrel
    have Hg := Lib.hid hg
    clear hg
    by_cases hlt : k < 64
    · by_cases h6 : s ≤ k
      · by_cases h7 : (k : Int) < s + n
        · go_wp2_with (go_at_call 94; refine (bit_calls _ _ (by omega) (by omega) _).mono ?_; rintro e w' ⟨rfl, rfl⟩)
          go_round
          case rel => exact ⟨_, k + 1, rfl, by go_num, by omega, by rw [Hg.out, show 64 - k = (64 - (k + 1)) + 1 from by omega, putGo_in (by omega)]; rfl⟩
          case measure => simp [intOf]; omega
        · go_wp2_with (go_at_call 94; refine (bit_calls _ _ (by omega) (by omega) _).mono ?_; rintro e w' ⟨rfl, rfl⟩)
          go_round
          case rel => exact ⟨_, k + 1, rfl, by go_num, by omega, by rw [Hg.out, show 64 - k = (64 - (k + 1)) + 1 from by omega, putGo_out (by omega)]; rfl⟩
          case measure => simp [intOf]; omega
      · go_wp2_with (go_at_call 94; refine (bit_calls _ _ (by omega) (by omega) _).mono ?_; rintro e w' ⟨rfl, rfl⟩)
        go_round
        case rel => exact ⟨_, k + 1, rfl, by go_num, by omega, by rw [Hg.out, show 64 - k = (64 - (k + 1)) + 1 from by omega]; rw [putGo_out (by omega)]; rfl⟩
        case measure => simp [intOf]; omega
    · go_wp2
      go_ret2
      exact ⟨by rw [Hg.out, putGo_end x s n v a (m := 64) (by omega) (by omega)]; rfl, below_box hb1⟩
/-- What ref.Cut gathers: d rounds from i on. -/
def cutGo (v n : Int) (sg : Bool) : Nat → Int → Int → Int
  | 0, _, o => o
  | d + 1, i, o => cutGo v n sg d (i + 1) (Go.bits .or .u64 o (IntKind.u64.wrap ((if i < n then bitV v i else if sg then bitV v (n - 1) else 0) * 2 ^ i.toNat)))
theorem cutGo_end (v n o : Int) (sg : Bool) {d : Nat} {i m : Int} (hd : m - i = d) (h : ¬ i < m) : cutGo v n sg d i o = o := by
  obtain rfl : d = 0 := by omega
  rfl
theorem cutGo_in {v n o : Int} {sg : Bool} {d : Nat} {i : Int} (h : i < n) : cutGo v n sg (d + 1) i o = cutGo v n sg d (i + 1) (Go.bits .or .u64 o (IntKind.u64.wrap (bitV v i * 2 ^ i.toNat))) := by
  simp only [cutGo, if_pos h]
theorem cutGo_sg {v n o : Int} {d : Nat} {i : Int} (h : ¬ i < n) : cutGo v n true (d + 1) i o = cutGo v n true d (i + 1) (Go.bits .or .u64 o (IntKind.u64.wrap (bitV v (n - 1) * 2 ^ i.toNat))) := by
  simp only [cutGo, if_neg h, if_true]
theorem cutGo_un {v n o : Int} {d : Nat} {i : Int} (h : ¬ i < n) : cutGo v n false (d + 1) i o = cutGo v n false d (i + 1) (Go.bits .or .u64 o 0) := by
  simp [cutGo, if_neg h, IntKind.wrap, IntKind.bits, IntKind.signed]
theorem cut_no (v n : Int) (sg : Bool) (w : World) (h : wideB n = false) :
    Calls Try.prog 60 #[.int .u64 v, .int .i64 n, .bool sg] w fun e w' => e = .returned (.tuple #[.int .u64 0, .bool false]) ∧ w = w' := by
  by_cases h1 : n < 1
  · go_enter Try.func60, Try.ntmps60
    go_wp2
    go_ret2
    exact ⟨rfl, rfl⟩
  · have h2 : 64 < n := by simp [wideB] at h; omega
    go_enter Try.func60, Try.ntmps60
    go_wp2
    go_ret2
    exact ⟨rfl, rfl⟩
theorem cut_calls (v n : Int) (sg : Bool) (w : World) (h : wideB n = true) :
    Calls Try.prog 60 #[.int .u64 v, .int .i64 n, .bool sg] w fun e w' => e = .returned (.tuple #[.int .u64 (cutGo v n sg 64 0 0), .bool true]) ∧ w = w' := by
  obtain ⟨h1, h2⟩ := wideB_true h
  go_enter Try.func60, Try.ntmps60
  go_wp2
  go_loop [8, 9] (fun o i => ∃ (a : Int) (k : Nat), o = .int .u64 a ∧ i = .int .i64 k ∧ k ≤ 64 ∧ cutGo v n sg 64 0 0 = cutGo v n sg (64 - k) k a) (fun _ i => 64 - (intOf i).toNat)
  case atStart => exact ⟨0, 0, rfl, rfl, by omega, rfl⟩
  case round =>
    obtain ⟨a, k, rfl, rfl, hk, hg⟩ := hrel
    have Hg := Lib.hid hg
    clear hg
    by_cases hlt : k < 64
    · by_cases h6 : (k : Int) < n
      · go_wp2_with (go_at_call 94; refine (bit_calls _ _ (by omega) (by omega) _).mono ?_; rintro e w' ⟨rfl, rfl⟩)
        go_round
        case rel => exact ⟨_, k + 1, rfl, by go_num, by omega, by rw [Hg.out, show 64 - k = (64 - (k + 1)) + 1 from by omega]; rw [cutGo_in (by omega)]; rfl⟩
        case measure => simp [intOf]; omega
      · cases sg
        · go_wp2
          go_round
          case rel => exact ⟨_, k + 1, rfl, by go_num, by omega, by rw [Hg.out, show 64 - k = (64 - (k + 1)) + 1 from by omega]; rw [cutGo_un (by omega)]; rfl⟩
          case measure => simp [intOf]; omega
        · go_wp2_with (go_at_call 94; refine (bit_calls _ _ (by omega) (by omega) _).mono ?_; rintro e w' ⟨rfl, rfl⟩)
          go_round
          case rel => exact ⟨_, k + 1, rfl, by go_num, by omega, by rw [Hg.out, show 64 - k = (64 - (k + 1)) + 1 from by omega]; rw [cutGo_sg (by omega)]; rfl⟩
          case measure => simp [intOf]; omega
    · go_wp2
      go_ret2
      exact ⟨by rw [Hg.out, cutGo_end v n a sg (m := 64) (by omega) (by omega)]; rfl, rfl⟩
/-- What ref.Rotate gathers: d rounds from i on. -/
def turnGo (v n m : Int) : Nat → Int → Int → Int
  | 0, _, o => o
  | d + 1, i, o => turnGo v n m d (i + 1) (Go.bits .or .u64 o (IntKind.u64.wrap (bitV v i * 2 ^ ((i + m) % n).toNat)))
theorem turnGo_end (v n m o : Int) {d : Nat} {i j : Int} (hd : j - i = d) (h : ¬ i < j) : turnGo v n m d i o = o := by
  obtain rfl : d = 0 := by omega
  rfl
theorem rrotate_no (v n k : Int) (w : World) (h : wideB n = false ∨ aboveGo v (64 - n).toNat n = true) :
    Calls Try.prog 63 #[.int .u64 v, .int .i64 n, .int .i64 k] w fun e w' => e = .returned (.tuple #[.int .u64 0, .bool false]) ∧ w = w' := by
  by_cases h1 : n < 1
  · clear h
    go_enter Try.func63, Try.ntmps63
    go_wp2
    go_ret2
    exact ⟨rfl, rfl⟩
  · by_cases h2 : 64 < n
    · clear h
      go_enter Try.func63, Try.ntmps63
      go_wp2
      go_ret2
      exact ⟨rfl, rfl⟩
    · have hv := h.resolve_left (by simp [wideB]; omega)
      clear h
      go_enter Try.func63, Try.ntmps63
      go_wp2_with (first | (go_at_call 95; refine (above_calls _ _ (by omega) (by omega) _).mono ?_; rintro e w' ⟨rfl, rfl⟩))
      go_ret2
      exact ⟨rfl, rfl⟩
theorem rrotate_calls (v n k t m : Int) (w : World) (h : wideB n = true) (hv : aboveGo v (64 - n).toNat n = false) (ht : k.tmod n = t) (htb : -64 < t ∧ t < 64) (hm : m = if t < 0 then t + n else t) (h0 : 0 ≤ m) (h3 : m < n) :
    Calls Try.prog 63 #[.int .u64 v, .int .i64 n, .int .i64 k] w fun e w' => e = .returned (.tuple #[.int .u64 (turnGo v n m n.toNat 0 0), .bool true]) ∧ ∃ nq, w' = w.drewN nq := by
  obtain ⟨h1, h2⟩ := wideB_true h
  obtain ⟨N, rfl⟩ := Int.eq_ofNat_of_zero_le (show 0 ≤ n by omega)
  obtain ⟨htl, hth⟩ := htb
  rw [Int.toNat_natCast]
  rw [show (64 - (N : Int)).toNat = 64 - N from by omega] at hv
  by_cases hneg : t < 0
  · simp only [hneg, if_true] at hm
    have Hm := Lib.hid hm
    clear hm
    go_enter Try.func63, Try.ntmps63
    go_wp2_with (first | (go_at_call 95; refine (above_calls _ _ (by omega) (by omega) _).mono ?_; rintro e w' ⟨rfl, rfl⟩))
    rw [← Hm.out]
    go_loopw [8, 9] (fun o i wr => ∃ (a : Int) (j : Nat), o = .int .u64 a ∧ i = .int .i64 j ∧ j ≤ N ∧ turnGo v N m N 0 0 = turnGo v N m (N - j) j a ∧ ∃ nq, wr = w.drewN nq) (fun _ i _ => N - (intOf i).toNat)
    case atStart => exact ⟨0, 0, rfl, rfl, by omega, rfl, 0, rfl⟩
    case round =>
      obtain ⟨a, j, rfl, rfl, hj, hg, nq, rfl⟩ := hrel
      have Hg := Lib.hid hg
      clear hg
      by_cases hlt : j < N
      · have hq1 := Int.emod_nonneg ((j : Int) + m) (show (N : Int) ≠ 0 by omega)
        have hq2 := Int.emod_lt_of_pos ((j : Int) + m) (show (0 : Int) < N by omega)
        have f1 : IntKind.i64.wrap ((j : Int) + m) = j + m := IntWalk.i64_in _ (by omega)
        have f2 : Int.tmod ((j : Int) + m) N = (j + m) % N := Int.tmod_eq_emod_of_nonneg (by omega)
        generalize hq : ((j : Int) + m) % N = q at hq1 hq2 f2
        have Hq := Lib.hid hq
        clear hq
        have f3 : IntKind.u64.wrap q = q := by rw [u64_wrap]; omega
        have f4 : 0 ≤ (j : Int) + m := by omega
        go_wp2_with fail
        go_quiet ((go_at_call 94; exact quiet_add_left (bit_calls _ _ (by omega) (by omega) _)))
        go_wp2
        go_roundw
        case rel => exact ⟨_, j + 1, rfl, by go_num, by omega, by rw [Hg.out, show N - j = (N - (j + 1)) + 1 from by omega]; simp only [turnGo]; rw [Hq.out]; rfl, _, rfl⟩
        case measure => simp [intOf]; omega
      · go_wp2
        go_ret2
        exact ⟨by rw [Hg.out, turnGo_end v N m a (j := N) (by omega) (by omega)]; rfl, _, rfl⟩
  · simp only [hneg, if_false] at hm
    subst hm
    go_enter Try.func63, Try.ntmps63
    go_wp2_with (first | (go_at_call 95; refine (above_calls _ _ (by omega) (by omega) _).mono ?_; rintro e w' ⟨rfl, rfl⟩))
    go_loopw [8, 9] (fun o i wr => ∃ (a : Int) (j : Nat), o = .int .u64 a ∧ i = .int .i64 j ∧ j ≤ N ∧ turnGo v N m N 0 0 = turnGo v N m (N - j) j a ∧ ∃ nq, wr = w.drewN nq) (fun _ i _ => N - (intOf i).toNat)
    case atStart => exact ⟨0, 0, rfl, rfl, by omega, rfl, 0, rfl⟩
    case round =>
      obtain ⟨a, j, rfl, rfl, hj, hg, nq, rfl⟩ := hrel
      have Hg := Lib.hid hg
      clear hg
      by_cases hlt : j < N
      · have hq1 := Int.emod_nonneg ((j : Int) + m) (show (N : Int) ≠ 0 by omega)
        have hq2 := Int.emod_lt_of_pos ((j : Int) + m) (show (0 : Int) < N by omega)
        have f1 : IntKind.i64.wrap ((j : Int) + m) = j + m := IntWalk.i64_in _ (by omega)
        have f2 : Int.tmod ((j : Int) + m) N = (j + m) % N := Int.tmod_eq_emod_of_nonneg (by omega)
        generalize hq : ((j : Int) + m) % N = q at hq1 hq2 f2
        have Hq := Lib.hid hq
        clear hq
        have f3 : IntKind.u64.wrap q = q := by rw [u64_wrap]; omega
        have f4 : 0 ≤ (j : Int) + m := by omega
        go_wp2_with fail
        go_quiet ((go_at_call 94; exact quiet_add_left (bit_calls _ _ (by omega) (by omega) _)))
        go_wp2
        go_roundw
        case rel => exact ⟨_, j + 1, rfl, by go_num, by omega, by rw [Hg.out, show N - j = (N - (j + 1)) + 1 from by omega]; simp only [turnGo]; rw [Hq.out]; rfl, _, rfl⟩
        case measure => simp [intOf]; omega
      · go_wp2
        go_ret2
        exact ⟨by rw [Hg.out, turnGo_end v N m a (j := N) (by omega) (by omega)]; rfl, _, rfl⟩
end Go.Proofs.Ytgilmpfohlpbdaa.Pack
