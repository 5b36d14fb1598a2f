/- Layer 5: Aligned and Sizes, and the document's Sizes, First and Align. -/
import Derived.Test.YthkpfeikpmcpeaaTabB
set_option linter.unusedVariables false
namespace Go.Proofs.Ythkpfeikpmcpeaa.Tab
open Go.RowKit Go.Proofs.Ythkpfeikpmcpeaa.Aid Go.Proofs.Ythkpfeikpmcpeaa.Sizes
def alGo (first a : Int) : Nat → Nat → Int
  | 0, _ => -1
  | d + 1, k => if first ≤ k ∧ Go.bits .and .i64 (tab.getD k 0) (a - 1) = 0 then k else alGo first a d (k + 1)
/-- Is it an alignment? -/
def isAl (a : Int) : Bool := decide (1 ≤ a ∧ a ≤ 4096) && isPow a
def alignedV (n a : Int) : Int := if (classB n && isAl a) = true then alGo (classV n) a 16 0 else -1
def alignedB (n a : Int) : Bool := decide (0 ≤ alignedV n a)
theorem alGo_step (f a : Int) (d k : Nat) : alGo f a (d + 1) k = if f ≤ k ∧ Go.bits .and .i64 (tab.getD k 0) (a - 1) = 0 then (k : Int) else alGo f a d (k + 1) := rfl
theorem alGo_range (f a : Int) : ∀ d k, alGo f a d k = -1 ∨ 0 ≤ alGo f a d k
  | 0, k => .inl rfl
  | d + 1, k => by
    unfold alGo
    split
    · exact .inr (Int.natCast_nonneg _)
    · exact alGo_range f a d (k + 1)
theorem class_bounds (n : Int) (h : classB n = true) : 0 ≤ classV n ∧ classV n < 16 := by
  unfold classB at h
  have h' := of_decide_eq_true h
  have := cntN_le n
  unfold classV
  rw [if_neg h']
  omega
set_option maxRecDepth 100000 in
set_option maxHeartbeats 2000000 in
theorem aligned_calls (n a : Int) (ha : -9223372036854775808 ≤ a ∧ a < 9223372036854775808) (w : World) : Calls Try.prog 18 #[.int .i64 n, .int .i64 a] w fun e w' => e = .returned (.tuple #[.int .i64 (alignedV n a), .bool (alignedB n a)]) ∧ Below w.heap.size w w' := by
  have C := Lib.hid (class_calls n)
  have hcb := class_bounds n
  unfold alignedB alignedV
  generalize hfc : classV n = f at C hcb ⊢
  have ha0 := ha.1
  have ha1 := ha.2
  cases hcB : classB n
  · rw [hcB] at C
    rw [if_neg (by simp)]
    clear hcb hfc hcB ha
    go_enter Try.func18, Try.ntmps18
    go_wp2_with (first
          | (go_at_call 16; refine (C.out _).mono ?_; rintro e w1 ⟨rfl, hb1⟩))
    go_ret2
    exact ⟨rfl, hb1⟩
  · rw [hcB] at C
    obtain ⟨f0, f1⟩ := hcb hcB
    clear hcb hfc hcB ha
    rw [Bool.true_and]
    by_cases hr : 1 ≤ a ∧ a ≤ 4096
    · obtain ⟨h1, h2⟩ := hr
      obtain ⟨m, rfl⟩ := Int.eq_ofNat_of_zero_le (show 0 ≤ a by omega)
      have ho := ones_pow m (by omega) (by omega)
      have hal : isAl m = (onesV m == 1) := by unfold isAl; rw [decide_eq_true ⟨h1, h2⟩, Bool.true_and, ho]
      rw [hal]
      have O := Lib.hid (ones_calls m)
      clear ho hal
      generalize onesV m = o at O ⊢
      generalize hA : (m : Int) = a at *
      clear hA
      by_cases h1o : o = 1
      · subst h1o
        rw [if_pos (show ((1 : Int) == 1) = true from rfl)]
        have hr := alGo_range f a 16 0
        go_enter Try.func18, Try.ntmps18
        go_wp2_with (first
          | (go_at_call 16; refine (C.out _).mono ?_; rintro e w1 ⟨rfl, hb1⟩)
          | (go_at_call 53; refine (O.out _).mono ?_; rintro e w' ⟨rfl, rfl⟩)
          | (go_at_call 51; refine (table_agg _).mono ?_; rintro e w2 ⟨rfl, hb2⟩))
        have hb := below_then hb1 hb2
        go_loop [32] (fun i => ∃ (k : Nat), i = .int .i64 k ∧ k ≤ 16 ∧ alGo f a 16 0 = alGo f a (16 - k) k) (fun i => 16 - (intOf i).toNat)
        case atStart => exact ⟨0, rfl, by omega, rfl⟩
        case round =>
          obtain ⟨k, rfl, hk, hg⟩ := hrel
          by_cases hlt : k < 16
          · rw [show 16 - k = (16 - (k + 1)) + 1 from by omega] at hg
            have hi := tab_idx k hlt
            rw [alGo_step f a (16 - (k + 1)) k] at hg
            by_cases hfk : f ≤ k
            · generalize tab.getD k 0 = s at hi hg
              by_cases hz : Go.bits .and .i64 s (a - 1) = 0
              · rw [if_pos ⟨hfk, hz⟩] at hg
                have hz' : (Go.bits .and .i64 s (a - 1) == 0) = true := by rw [hz]; rfl
                have Hg := Lib.hid hg
                clear hg hz hr
                go_wp2
                go_ret2
                exact ⟨ret_pair (by rw [Hg.out]) (by rw [Hg.out]; simp), hb⟩
              · rw [if_neg (fun h => hz h.2)] at hg
                have hz' : (Go.bits .and .i64 s (a - 1) == 0) = false := by rw [beq_eq_false_iff_ne]; exact hz
                have Hg := Lib.hid hg
                clear hg hz hr
                go_wp2
                go_round
                case rel => exact ⟨k + 1, by go_num, by omega, Hg.out⟩
                case measure => simp [intOf]; omega
            · rw [if_neg (fun h => hfk h.1)] at hg
              have Hg := Lib.hid hg
              clear hg hr
              go_wp2
              go_round
              case rel => exact ⟨k + 1, by go_num, by omega, Hg.out⟩
              case measure => simp [intOf]; omega
          · rw [show 16 - k = 0 from by omega] at hg
            have Hg := Lib.hid (show alGo f a 16 0 = -1 from hg)
            clear hg hr
            go_wp2
            go_ret2
            exact ⟨ret_pair (by rw [Hg.out]) (by rw [Hg.out]; rfl), hb⟩
      · have h1o' : (o == 1) = false := by rw [beq_eq_false_iff_ne]; exact h1o
        have h1o2 : (o != 1) = true := by rw [bne, h1o']; rfl
        rw [h1o', if_neg (by simp)]
        clear h1o h1o'
        go_enter Try.func18, Try.ntmps18
        go_wp2_with (first
          | (go_at_call 16; refine (C.out _).mono ?_; rintro e w1 ⟨rfl, hb1⟩)
          | (go_at_call 53; refine (O.out _).mono ?_; rintro e w' ⟨rfl, rfl⟩))
        go_ret2
        exact ⟨rfl, hb1⟩
    · have hal : isAl a = false := by unfold isAl; rw [decide_eq_false hr]; rfl
      rw [hal, if_neg (by simp)]
      clear hal
      by_cases h0 : a < 1
      all_goals
        go_enter Try.func18, Try.ntmps18
        go_wp2_with (first
          | (go_at_call 16; refine (C.out _).mono ?_; rintro e w1 ⟨rfl, hb1⟩))
        go_ret2
        exact ⟨rfl, hb1⟩
set_option maxRecDepth 100000 in
theorem sizes_calls (w : World) : Calls Try.prog 20 #[] w fun e w' => ∃ v, e = .returned v ∧ Own w' w.heap.size 3 .i64 v tab ∧ Below w.heap.size w w' := by
  go_enter Try.func20, Try.ntmps20
  go_wp2_with (first
          | (go_at_call 51; refine (table_calls _).mono ?_; rintro e w1 ⟨rfl, hb1⟩)
          | (go_at_call 54; refine (Try.slices_Clone_int w1.heap.size 0 16 16 tab (w1.alloc (.cells tabC 51)) (by decide) (by decide) (tab_cells w1 _)).mono ?_; rintro e w2 ⟨v, rfl, hown, _, hb2⟩))
  go_ret
  have hsz := hb1.size
  refine ⟨_, rfl, ?_, below_then hb1 (below_box hb2)⟩
  obtain ⟨h1, h2⟩ := hown
  refine ⟨h1, ?_⟩
  rcases h2 with h2 | ⟨g, cap, cur, hv, hg, r⟩
  · exact .inl h2
  · exact .inr ⟨g, cap, cur, hv, by simp at hg; omega, r⟩
def firstGo (n a : Int) : Nat → Nat → Int
  | 0, _ => -1
  | d + 1, k => if n ≤ tab.getD k 0 ∧ tab.getD k 0 % a = 0 then k else firstGo n a d (k + 1)
theorem firstGo_step (n a : Int) (d k : Nat) : firstGo n a (d + 1) k = if n ≤ tab.getD k 0 ∧ tab.getD k 0 % a = 0 then (k : Int) else firstGo n a d (k + 1) := rfl
def firstV (n a : Int) : Int := if n < 0 ∨ 512 < n then -1 else firstGo n a 16 0
set_option maxRecDepth 100000 in
theorem first_calls (n a : Int) (ha : 1 ≤ a ∧ a < 9223372036854775808) (A : Option Addr) (c : Nat) (w : World) (hT : Ints w .i64 A tab) : Calls Try.prog 17 #[.slice A 16 c, .int .i64 n, .int .i64 a] w fun e w' => e = .returned (.int .i64 (firstV n a)) ∧ w = w' := by
  unfold firstV
  by_cases h : n < 0 ∨ 512 < n
  · rw [if_pos h]
    by_cases h0 : n < 0
    all_goals
      go_enter Try.func17, Try.ntmps17
      go_wp2
      go_ret
      exact ⟨rfl, rfl⟩
  · rw [if_neg h]
    have h0 : 0 ≤ n := by omega
    have h1 : n ≤ 512 := by omega
    have ha0 := ha.1
    have ha1 := ha.2
    clear h ha
    go_enter Try.func17, Try.ntmps17
    go_wp2
    go_loop [7] (fun i => ∃ (k : Nat), i = .int .i64 k ∧ k ≤ 16 ∧ firstGo n a 16 0 = firstGo n a (16 - k) k) (fun i => 16 - (intOf i).toNat)
    case atStart => exact ⟨0, rfl, by omega, rfl⟩
    case round =>
      obtain ⟨k, rfl, hk, hg⟩ := hrel
      by_cases hlt : k < 16
      · rw [show 16 - k = (16 - (k + 1)) + 1 from by omega] at hg
        obtain ⟨b, o, rfl, hbl, hc0⟩ := hT k hlt
        have hb := tab_bounds k hlt
        rw [firstGo_step n a (16 - (k + 1)) k] at hg
        have hi0 : (0 : Int) ≤ (k : Int) := Int.natCast_nonneg _
        generalize tab.getD k 0 = s at hc0 hg hb
        obtain ⟨s0, s1⟩ := hb
        by_cases hns : n ≤ s
        · by_cases hz : s % a = 0
          · rw [if_pos ⟨hns, hz⟩] at hg
            have hz' : (s % a == 0) = true := by rw [hz]; rfl
            have Hg := Lib.hid hg
            clear hg hz
            go_wp2
            go_ret
            exact ⟨ret_int (by rw [Hg.out]), rfl⟩
          · rw [if_neg (fun h => hz h.2)] at hg
            have hz' : (s % a == 0) = false := by rw [beq_eq_false_iff_ne]; exact hz
            have Hg := Lib.hid hg
            clear hg hz
            go_wp2
            go_round
            case rel => exact ⟨k + 1, by go_num, by omega, Hg.out⟩
            case measure => simp [intOf]; omega
        · rw [if_neg (fun h => hns h.1)] at hg
          have Hg := Lib.hid hg
          clear hg
          go_wp2
          go_round
          case rel => exact ⟨k + 1, by go_num, by omega, Hg.out⟩
          case measure => simp [intOf]; omega
      · rw [show 16 - k = 0 from by omega] at hg
        have Hg := Lib.hid (show firstGo n a 16 0 = -1 from hg)
        clear hg
        go_wp2
        go_ret
        exact ⟨ret_int (by rw [Hg.out]), rfl⟩
end Go.Proofs.Ythkpfeikpmcpeaa.Tab
