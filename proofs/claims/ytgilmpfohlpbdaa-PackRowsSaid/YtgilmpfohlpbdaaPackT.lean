/- Layer 1: one total contract a function, the program's and the reference's told by the same word; and the law's own first look, that the package is alive. -/
import Derived.Test.YtgilmpfohlpbdaaPackP
import Derived.Test.YtgilmpfohlpbdaaPackL
import Derived.Outline
namespace Go.Proofs.Ytgilmpfohlpbdaa.Pack
open Go.RowKit Go.Proofs.Ytgilmpfohlpbdaa.Aid
def getR (x s n : Int) : Int × Bool := if rightB s n = true then (Go.bits .and .u64 (x / 2 ^ s.toNat) (maskV n), true) else (0, false)
theorem get_any (x s n : Int) (w : World) : Calls Try.prog 53 #[.int .u64 x, .agg #[.int .i64 s, .int .i64 n]] w fun e w' => e = .returned (.tuple #[.int .u64 (getR x s n).1, .bool (getR x s n).2]) ∧ Below w.heap.size w w' := by
  unfold getR
  by_cases h : rightB s n = true
  · rw [if_pos h]; exact get_calls x s n w h
  · rw [if_neg h]; exact get_no x s n w (by simpa using h)
theorem rget_any (x s n : Int) (hx : R x) (w : World) : Calls Try.prog 54 #[.int .u64 x, .agg #[.int .i64 s, .int .i64 n]] w fun e w' => e = .returned (.tuple #[.int .u64 (getR x s n).1, .bool (getR x s n).2]) ∧ Below w.heap.size w w' := by
  unfold getR
  by_cases h : rightB s n = true
  · rw [if_pos h, gets x s n hx h]; exact rget_calls x s n w (by rw [← rights]; exact h)
  · rw [if_neg h]; exact rget_no x s n w (by rw [← rights]; simpa using h)
def putR (x s n v : Int) : Int × Bool := if putB s n v = true then (putV x s n v, true) else (0, false)
theorem putB_true {s n v : Int} (h : putB s n v = true) : rightB s n = true ∧ (Go.bits .andNot .u64 v (maskV n) != 0) = false := by
  unfold putB at h
  simpa only [Bool.and_eq_true, Bool.not_eq_true'] using h
theorem putB_false {s n v : Int} (h : ¬ putB s n v = true) : rightB s n = false ∨ (Go.bits .andNot .u64 v (maskV n) != 0) = true := by
  unfold putB at h
  cases h1 : rightB s n
  · exact .inl rfl
  · right; simpa [h1] using h
theorem put_any (x s n v : Int) (w : World) : Calls Try.prog 55 #[.int .u64 x, .agg #[.int .i64 s, .int .i64 n], .int .u64 v] w fun e w' => e = .returned (.tuple #[.int .u64 (putR x s n v).1, .bool (putR x s n v).2]) ∧ Below w.heap.size w w' := by
  unfold putR
  by_cases h : putB s n v = true
  · rw [if_pos h]; exact put_calls x s n v w (putB_true h).1 (putB_true h).2
  · rw [if_neg h]; exact put_no x s n v w (putB_false h)
theorem rput_any (x s n v : Int) (hx : R x) (hv : R v) (w : World) : Calls Try.prog 56 #[.int .u64 x, .agg #[.int .i64 s, .int .i64 n], .int .u64 v] w fun e w' => e = .returned (.tuple #[.int .u64 (putR x s n v).1, .bool (putR x s n v).2]) ∧ Below w.heap.size w w' := by
  unfold putR
  by_cases h : putB s n v = true
  · obtain ⟨h1, h2⟩ := putB_true h
    obtain ⟨a, b, _⟩ := rightB_true h1
    rw [if_pos h, puts x s n v hx hv h1 h2]
    exact rput_calls x s n v w (by rw [← rights]; exact h1) (by rw [← aboves v n hv a b]; exact h2)
  · rw [if_neg h]
    refine rput_no x s n v w ?_
    by_cases h1 : rightB s n = true
    · obtain ⟨a, b, _⟩ := rightB_true h1
      right
      rw [← aboves v n hv a b]
      exact (putB_false h).resolve_left (by simp [h1])
    · left
      rw [← rights]; simpa using h1
def signedR (v n : Int) : Int × Bool := if wideB n = true then (signedV v n, true) else (0, false)
theorem signed_any (v n : Int) (w : World) : Calls Try.prog 59 #[.int .u64 v, .int .i64 n] w fun e w' => e = .returned (.tuple #[.int .i64 (signedR v n).1, .bool (signedR v n).2]) ∧ w = w' := by
  unfold signedR
  by_cases h : wideB n = true
  · rw [if_pos h]; exact signed_calls v n w h
  · rw [if_neg h]; exact signed_no v n w (by simpa using h)
theorem rcut_signed (v n : Int) (hv : R v) (w : World) : Calls Try.prog 60 #[.int .u64 v, .int .i64 n, .bool true] w fun e w' => e = .returned (.tuple #[.int .u64 (IntKind.u64.wrap (signedR v n).1), .bool (signedR v n).2]) ∧ w = w' := by
  unfold signedR
  by_cases h : wideB n = true
  · obtain ⟨h1, h2⟩ := wideB_true h
    rw [if_pos h]
    have e : IntKind.u64.wrap (signedV v n) = cutGo v n true 64 0 0 := R_inj (R_wrap _) (cutGo_R _ _ _ _ _ _ R_zero) (by rw [B_wrap]; exact B_signed v n hv h1 h2)
    show Calls _ _ _ _ fun e w' => e = .returned (.tuple #[.int .u64 (IntKind.u64.wrap (signedV v n)), .bool true]) ∧ w = w'
    rw [e]
    exact cut_calls v n true w h
  · rw [if_neg h]; exact cut_no v n true w (by simpa using h)
def unsignedR (v n : Int) : Int × Bool := if wideB n = true then (unsignedV v n, true) else (0, false)
theorem unsigned_any (v n : Int) (w : World) : Calls Try.prog 61 #[.int .i64 v, .int .i64 n] w fun e w' => e = .returned (.tuple #[.int .u64 (unsignedR v n).1, .bool (unsignedR v n).2]) ∧ w = w' := by
  unfold unsignedR
  by_cases h : wideB n = true
  · rw [if_pos h]; exact unsigned_calls v n w h
  · rw [if_neg h]; exact unsigned_no v n w (by simpa using h)
theorem rcut_unsigned (v n : Int) (hv : R v) (w : World) : Calls Try.prog 60 #[.int .u64 v, .int .i64 n, .bool false] w fun e w' => e = .returned (.tuple #[.int .u64 (unsignedR (wrap64 v) n).1, .bool (unsignedR (wrap64 v) n).2]) ∧ w = w' := by
  unfold unsignedR
  by_cases h : wideB n = true
  · obtain ⟨h1, h2⟩ := wideB_true h
    rw [if_pos h, unsigneds v n hv h1 h2]
    exact cut_calls v n false w h
  · rw [if_neg h]; exact cut_no v n false w (by simpa using h)
def rotB (v n : Int) : Bool := wideB n && !(Go.bits .andNot .u64 v (maskV n) != 0)
theorem rotB_true {n v : Int} (h : rotB v n = true) : wideB n = true ∧ (Go.bits .andNot .u64 v (maskV n) != 0) = false := by
  unfold rotB at h
  simpa only [Bool.and_eq_true, Bool.not_eq_true'] using h
theorem rotB_false {n v : Int} (h : ¬ rotB v n = true) : wideB n = false ∨ (Go.bits .andNot .u64 v (maskV n) != 0) = true := by
  unfold rotB at h
  cases h1 : wideB n
  · exact .inl rfl
  · right; simpa [h1] using h
def rotR (v n k : Int) : Int × Bool := if rotB v n = true then (rotV v n (k % n), true) else (0, false)
theorem rotate_any (v n k : Int) (w : World) : Calls Try.prog 62 #[.int .u64 v, .int .i64 n, .int .i64 k] w fun e w' => e = .returned (.tuple #[.int .u64 (rotR v n k).1, .bool (rotR v n k).2]) ∧ Below w.heap.size w w' := by
  unfold rotR
  by_cases h : rotB v n = true
  · obtain ⟨h1, h2⟩ := rotB_true h
    obtain ⟨h3, h4⟩ := wideB_true h1
    rw [if_pos h]
    have b := tmod_lt k n h3
    have m0 := Int.emod_nonneg k (show n ≠ 0 by omega)
    have m1 := Int.emod_lt_of_pos k (show 0 < n by omega)
    unfold rotV
    by_cases h64 : n = 64
    · subst h64
      rw [if_pos rfl]
      refine (rotate64 v k (k.tmod 64) (k % 64) w h2 rfl ?_ m0 m1).mono fun e w' ⟨he, hw⟩ => ⟨he, by subst hw; exact Below.refl _ _⟩
      rw [and63, tmod_emod]
    · rw [if_neg h64]
      have q0 := Int.emod_nonneg (k.tmod n + n) (show n ≠ 0 by omega)
      have q1 := Int.emod_lt_of_pos (k.tmod n + n) (show 0 < n by omega)
      have e : (k.tmod n + n) % n = k % n := by rw [Int.add_emod_right, tmod_emod]
      have := rotate_calls v n k (k.tmod n) w h1 (by simpa using h64) h2 rfl (by omega) (by omega) q0 q1
      rw [e] at this
      exact this
  · rw [if_neg h]
    exact (rotate_no v n k w (rotB_false h)).mono fun e w' ⟨he, hw⟩ => ⟨he, by subst hw; exact Below.refl _ _⟩
theorem rrotate_any (v n k : Int) (hv : R v) (w : World) : Calls Try.prog 63 #[.int .u64 v, .int .i64 n, .int .i64 k] w fun e w' => e = .returned (.tuple #[.int .u64 (rotR v n k).1, .bool (rotR v n k).2]) ∧ Below w.heap.size w w' := by
  unfold rotR
  by_cases h : rotB v n = true
  · obtain ⟨h1, h2⟩ := rotB_true h
    obtain ⟨h3, h4⟩ := wideB_true h1
    rw [if_pos h]
    have b := tmod_lt k n h3
    have m0 := Int.emod_nonneg k (show n ≠ 0 by omega)
    have m1 := Int.emod_lt_of_pos k (show 0 < n by omega)
    rw [turns v n (k % n) hv h3 h4 h2 m0 m1]
    refine (rrotate_calls v n k (k.tmod n) (k % n) w h1 (by rw [← aboves v n hv h3 h4]; exact h2) rfl (by omega) ?_ m0 m1).mono fun e w' ⟨he, nq, hw⟩ => ⟨he, by subst hw; exact below_drewN (Below.refl _ _) _⟩
    rw [← tmod_emod]
    split
    · have : (k.tmod n) % n = (k.tmod n + n) % n := by rw [Int.add_emod_right]
      rw [this, Int.emod_eq_of_lt (by omega) (by omega)]
    · exact Int.emod_eq_of_lt (by omega) (by omega)
  · rw [if_neg h]
    refine (rrotate_no v n k w ?_).mono fun e w' ⟨he, hw⟩ => ⟨he, by subst hw; exact Below.refl _ _⟩
    by_cases h1 : wideB n = true
    · obtain ⟨a, b⟩ := wideB_true h1
      right
      rw [← aboves v n hv a b]
      exact (rotB_false h).resolve_left (by simp [h1])
    · left; simpa using h1
end Go.Proofs.Ytgilmpfohlpbdaa.Pack
