/- Layer 6: the document's Sizes, Place, Size and First over any list; Aligned, Twin, Both. -/
import Derived.Test.YthkpfeikpmcpeaaTbbD
import Derived.Test.YthkpfeikpmcpeaaTabX
set_option linter.unusedVariables false
namespace Go.Proofs.Ythkpfeikpmcpeaa.Tbb
open Go.RowKit Go.Proofs.Ythkpfeikpmcpeaa.Aid Go.Proofs.Ythkpfeikpmcpeaa.Tab
/-- The document's Sizes. -/
def tabNC : Array Value := #[.int .i64 8, .int .i64 16, .int .i64 24, .int .i64 32, .int .i64 48, .int .i64 64, .int .i64 96, .int .i64 128, .int .i64 192, .int .i64 256, .int .i64 384, .int .i64 512]
theorem tabN_Ints (w : World) (T : TypeId) : Ints (w.alloc (.cells tabNC T)) .i64 (some ⟨w.heap.size, 0, none⟩) tabN := fun k hk => by
  refine ⟨w.heap.size, 0, rfl, by simp, ?_⟩
  have h16 : k < 12 := hk
  unfold tabNC tabN
  rcases (by omega : k = 0 ∨ k = 1 ∨ k = 2 ∨ k = 3 ∨ k = 4 ∨ k = 5 ∨ k = 6 ∨ k = 7 ∨ k = 8 ∨ k = 9 ∨ k = 10 ∨ k = 11) with rfl | rfl | rfl | rfl | rfl | rfl | rfl | rfl | rfl | rfl | rfl | rfl
  all_goals go_simp
  all_goals rfl
theorem rsizes_calls (v : Int) (w : World) : Calls Try.prog 41 #[.int .i64 v] w fun e w' => ∃ A c, e = .returned (.slice A (tb v).length c) ∧ Ints w' .i64 A (tb v) ∧ Below w.heap.size w w' := by
  by_cases h0 : v = 0
  · subst h0
    go_enter Try.func41, Try.ntmps41
    go_wp2_with (first
      | (go_at_call 15; refine (Tab.rsizes_ints _).mono ?_; rintro e w1 ⟨b, o, rfl, hbl, hi, hb1⟩))
    go_ret
    exact ⟨_, _, rfl, hi, hb1⟩
  · have h0' : (v == 0) = false := by rw [beq_eq_false_iff_ne]; exact h0
    by_cases h1 : v = 1
    · subst h1
      go_enter Try.func41, Try.ntmps41
      go_wp2
      go_ret
      exact ⟨_, _, rfl, tabN_Ints w _, (Below.refl _ _).alloc (Nat.le_refl _) _⟩
    · have h1' : (v == 1) = false := by rw [beq_eq_false_iff_ne]; exact h1
      have ht : tb v = [] := by unfold tb; rw [if_neg h0, if_neg h1]
      rw [ht]
      clear ht h0 h1
      go_enter Try.func41, Try.ntmps41
      go_wp2
      go_ret
      exact ⟨none, 0, rfl, fun k hk => absurd hk (by simp), Below.refl _ _⟩
set_option maxRecDepth 100000 in
theorem rsize_calls (v c : Int) (w : World) : Calls Try.prog 43 #[.int .i64 v, .int .i64 c] w fun e w' => e = .returned (.int .i64 (sizeT v c)) ∧ Below w.heap.size w w' := by
  unfold sizeT
  have S := Lib.hid (rsizes_calls v)
  have hl := tb_len v
  generalize tb v = xs at S hl ⊢
  by_cases h : 0 ≤ c ∧ c < xs.length
  · rw [if_pos h]
    obtain ⟨k, rfl⟩ := Int.eq_ofNat_of_zero_le h.1
    rw [Int.toNat_natCast]
    have hk1 : (k : Int) < xs.length := h.2
    have hk0 : 0 ≤ (k : Int) := h.1
    have HG := Lib.hid (fun (w3 : World) (A : Option Addr) (h : Ints w3 .i64 A xs) => h k (by omega))
    generalize xs.getD k 0 = s at HG ⊢
    clear h
    go_enter Try.func43, Try.ntmps43
    go_wp2_with (first
      | (go_at_call 41; refine (S.out _).mono ?_; rintro e w1 ⟨A, cc, rfl, hI, hb1⟩; obtain ⟨b, o, rfl, hbl, hc0⟩ := HG.out _ _ hI))
    go_ret
    exact ⟨rfl, hb1⟩
  · rw [if_neg h]
    by_cases h0 : c < 0
    · clear h
      go_enter Try.func43, Try.ntmps43
      go_wp2_with (first
        | (go_at_call 41; refine (S.out _).mono ?_; rintro e w1 ⟨A, cc, rfl, hI, hb1⟩))
      go_ret
      exact ⟨rfl, hb1⟩
    · have h1 : (xs.length : Int) ≤ c := by omega
      clear h
      go_enter Try.func43, Try.ntmps43
      go_wp2_with (first
        | (go_at_call 41; refine (S.out _).mono ?_; rintro e w1 ⟨A, cc, rfl, hI, hb1⟩))
      go_ret
      exact ⟨rfl, hb1⟩
set_option maxRecDepth 100000 in
theorem rplace_calls (v n : Int) (w : World) : Calls Try.prog 48 #[.int .i64 v, .int .i64 n] w fun e w' => e = .returned (.int .i64 (placeV (tb v) n)) ∧ Below w.heap.size w w' := by
  unfold placeV
  have S := Lib.hid (rsizes_calls v)
  have hl := tb_len v
  generalize tb v = xs at S hl ⊢
  generalize hL : xs.length = L at S hl ⊢
  go_enter Try.func48, Try.ntmps48
  go_wp2_with (first
    | (go_at_call 41; refine (S.out _).mono ?_; rintro e w1 ⟨A, cc, rfl, hI, hb1⟩))
  go_loop [6] (fun i => ∃ (k : Nat), i = .int .i64 k ∧ k ≤ L ∧ placeGo xs n L 0 = placeGo xs n (L - k) k) (fun i => L - (intOf i).toNat)
  case atStart => exact ⟨0, rfl, by omega, rfl⟩
  case round =>
    obtain ⟨k, rfl, hk, hg⟩ := hrel
    by_cases hlt : k < L
    · rw [show L - k = (L - (k + 1)) + 1 from by omega, placeGo_step xs n (L - (k + 1)) k] at hg
      obtain ⟨b, o, rfl, hbl, hc0⟩ := hI k (by omega)
      generalize xs.getD k 0 = s at hc0 hg
      have hi0 : (0 : Int) ≤ (k : Int) := Int.natCast_nonneg _
      have hi1 : (k : Int) < (L : Int) := by omega
      by_cases hns : n = s
      · rw [if_pos hns] at hg
        have Hg := Lib.hid hg
        clear hg
        subst hns
        have hee : (n == n) = true := by simp
        go_wp2
        go_ret
        exact ⟨ret_int (by rw [Hg.out]), hb1⟩
      · rw [if_neg hns] at hg
        have hee : (s == n) = false := by rw [beq_eq_false_iff_ne]; exact fun h => hns h.symm
        have Hg := Lib.hid hg
        clear hg hns
        go_wp2
        go_round
        case rel => exact ⟨k + 1, by go_num, by omega, Hg.out⟩
        case measure => simp [intOf]; omega
    · rw [show L - k = 0 from by omega] at hg
      have Hg := Lib.hid (show placeGo xs n L 0 = -1 from hg)
      clear hg
      go_wp2
      go_ret
      exact ⟨ret_int (by rw [Hg.out]), hb1⟩
/-- The first class from a size on, over any list. -/
def fstGo (xs : List Int) (n a : Int) : Nat → Nat → Int
  | 0, _ => -1
  | d + 1, k => if n ≤ xs.getD k 0 ∧ xs.getD k 0 % a = 0 then k else fstGo xs n a d (k + 1)
theorem fstGo_step (xs : List Int) (n a : Int) (d k : Nat) : fstGo xs n a (d + 1) k = if n ≤ xs.getD k 0 ∧ xs.getD k 0 % a = 0 then (k : Int) else fstGo xs n a d (k + 1) := rfl
def fstV (xs : List Int) (n a : Int) : Int := if n < 0 ∨ 512 < n then -1 else fstGo xs n a xs.length 0
set_option maxRecDepth 100000 in
theorem fst_calls (xs : List Int) (n a : Int) (ha : 1 ≤ a ∧ a < 9223372036854775808) (hl : xs.length ≤ 16) (hbd : ∀ k, k < xs.length → 8 ≤ xs.getD k 0 ∧ xs.getD k 0 ≤ 512) (A : Option Addr) (c : Nat) (w : World) (hT : Ints w .i64 A xs) :
    Calls Try.prog 17 #[.slice A xs.length c, .int .i64 n, .int .i64 a] w fun e w' => e = .returned (.int .i64 (fstV xs n a)) ∧ w = w' := by
  unfold fstV
  by_cases h : n < 0 ∨ 512 < n
  · rw [if_pos h]
    by_cases h0 : n < 0
    all_goals
      go_enter Try.func17, Try.ntmps17
      go_wp2
      go_ret
      exact ⟨rfl, rfl⟩
  · rw [if_neg h]
    have h0 : 0 ≤ n := by omega
    have h1 : n ≤ 512 := by omega
    have ha0 := ha.1
    have ha1 := ha.2
    clear h ha
    generalize hL : xs.length = L at hl ⊢
    go_enter Try.func17, Try.ntmps17
    go_wp2
    go_loop [7] (fun i => ∃ (k : Nat), i = .int .i64 k ∧ k ≤ L ∧ fstGo xs n a L 0 = fstGo xs n a (L - k) k) (fun i => L - (intOf i).toNat)
    case atStart => exact ⟨0, rfl, by omega, rfl⟩
    case round =>
      obtain ⟨k, rfl, hk, hg⟩ := hrel
      by_cases hlt : k < L
      · rw [show L - k = (L - (k + 1)) + 1 from by omega] at hg
        obtain ⟨b, o, rfl, hbl, hc0⟩ := hT k (by omega)
        have hb := hbd k (by omega)
        rw [fstGo_step xs n a (L - (k + 1)) k] at hg
        have hi0 : (0 : Int) ≤ (k : Int) := Int.natCast_nonneg _
        have hi1 : (k : Int) < (L : Int) := by omega
        generalize xs.getD k 0 = s at hc0 hg hb
        obtain ⟨s0, s1⟩ := hb
        by_cases hns : n ≤ s
        · by_cases hz : s % a = 0
          · rw [if_pos ⟨hns, hz⟩] at hg
            have hz' : (s % a == 0) = true := by rw [hz]; rfl
            have Hg := Lib.hid hg
            clear hg hz
            go_wp2
            go_ret
            exact ⟨ret_int (by rw [Hg.out]), rfl⟩
          · rw [if_neg (fun h => hz h.2)] at hg
            have hz' : (s % a == 0) = false := by rw [beq_eq_false_iff_ne]; exact hz
            have Hg := Lib.hid hg
            clear hg hz
            go_wp2
            go_round
            case rel => exact ⟨k + 1, by go_num, by omega, Hg.out⟩
            case measure => simp [intOf]; omega
        · rw [if_neg (fun h => hns h.1)] at hg
          have Hg := Lib.hid hg
          clear hg
          go_wp2
          go_round
          case rel => exact ⟨k + 1, by go_num, by omega, Hg.out⟩
          case measure => simp [intOf]; omega
      · rw [show L - k = 0 from by omega] at hg
        have Hg := Lib.hid (show fstGo xs n a L 0 = -1 from hg)
        clear hg
        go_wp2
        go_ret
        exact ⟨ret_int (by rw [Hg.out]), rfl⟩
end Go.Proofs.Ythkpfeikpmcpeaa.Tbb
