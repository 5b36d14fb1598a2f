/- Layer 6: Aligned, Twin and Both. -/
import Derived.Test.YthkpfeikpmcpeaaTbbE
set_option linter.unusedVariables false
namespace Go.Proofs.Ythkpfeikpmcpeaa.Tbb
open Go.RowKit Go.Proofs.Ythkpfeikpmcpeaa.Aid Go.Proofs.Ythkpfeikpmcpeaa.Tab
def alT (xs : List Int) (f a : Int) : Nat → Nat → Int
  | 0, _ => -1
  | d + 1, k => if f ≤ k ∧ xs.getD k 0 % a = 0 then k else alT xs f a d (k + 1)
theorem alT_step (xs : List Int) (f a : Int) (d k : Nat) : alT xs f a (d + 1) k = if f ≤ k ∧ xs.getD k 0 % a = 0 then (k : Int) else alT xs f a d (k + 1) := rfl
def alignedT (v n a : Int) : Int := if (classTB v n && isAl a) = true then alT (tb v) (classT v n) a (tb v).length 0 else -1
def alignedTB (v n a : Int) : Bool := decide (0 ≤ alignedT v n a)
theorem classT_bounds (v n : Int) (h : classTB v n = true) : 0 ≤ classT v n ∧ classT v n < 16 := by
  unfold classTB at h
  have h' := of_decide_eq_true h
  have h1 : cntL v n ≤ (tb v).length := List.countP_le_length
  have h2 := tb_len v
  unfold classT
  rw [if_neg h']
  omega
set_option maxRecDepth 100000 in
set_option maxHeartbeats 2000000 in
theorem aligned_calls (v n a : Int) (ha : -9223372036854775808 ≤ a ∧ a < 9223372036854775808) (w : World) : Calls Try.prog 44 #[.int .i64 v, .int .i64 n, .int .i64 a] w fun e w' => e = .returned (.tuple #[.int .i64 (alignedT v n a), .bool (alignedTB v n a)]) ∧ Below w.heap.size w w' := by
  have C := Lib.hid (class_calls v n)
  have hcb := classT_bounds v n
  unfold alignedTB alignedT
  generalize hfc : classT v n = f at C hcb ⊢
  have ha0 := ha.1
  have ha1 := ha.2
  cases hcB : classTB v n
  · rw [hcB] at C
    rw [if_neg (by simp)]
    clear hcb hfc hcB ha
    go_enter Try.func44, Try.ntmps44
    go_wp2_with (first
      | (go_at_call 42; refine (C.out _).mono ?_; rintro e w1 ⟨rfl, hb1⟩))
    go_ret2
    exact ⟨rfl, hb1⟩
  · rw [hcB] at C
    obtain ⟨f0, f1⟩ := hcb hcB
    clear hcb hfc hcB ha
    rw [Bool.true_and]
    have P := Lib.hid (Sizes.power_calls a)
    cases hp : isPow a
    · have hal : isAl a = false := by unfold isAl; rw [hp, Bool.and_false]
      rw [hal, if_neg (by simp)]
      rw [hp] at P
      clear hal hp
      go_enter Try.func44, Try.ntmps44
      go_wp2_with (first
        | (go_at_call 42; refine (C.out _).mono ?_; rintro e w1 ⟨rfl, hb1⟩)
        | (go_at_call 35; refine (P.out _).mono ?_; rintro e w' ⟨rfl, rfl⟩))
      go_ret2
      exact ⟨rfl, hb1⟩
    · rw [hp] at P
      have hpb := (isPow_bounds hp).1
      by_cases hle : a ≤ 4096
      · have hal : isAl a = true := by unfold isAl; rw [hp, decide_eq_true ⟨hpb, hle⟩]; rfl
        rw [hal, if_pos rfl]
        have S := Lib.hid (sizes_calls v)
        have hl := tb_len v
        have hbd := Lib.hid (tb_bounds v)
        generalize tb v = xs at S hl hbd ⊢
        generalize hL : xs.length = L at S hl hbd ⊢
        have hr : ∀ d k, alT xs f a d k = -1 ∨ 0 ≤ alT xs f a d k := by
          intro d
          induction d with
          | zero => intro k; exact .inl rfl
          | succ d ih =>
            intro k
            rw [alT_step]
            split
            · exact .inr (Int.natCast_nonneg _)
            · exact ih (k + 1)
        clear hal hp
        go_enter Try.func44, Try.ntmps44
        go_wp2_with (first
          | (go_at_call 42; refine (C.out _).mono ?_; rintro e w1 ⟨rfl, hb1⟩)
          | (go_at_call 35; refine (P.out _).mono ?_; rintro e w' ⟨rfl, rfl⟩)
          | (go_at_call 45; refine (S.out _).mono ?_; rintro e w2 ⟨A, cc, rfl, hI, hb2⟩))
        have hb := below_then hb1 hb2
        clear hr
        go_loop [32] (fun i => ∃ (k : Nat), i = .int .i64 k ∧ k ≤ L ∧ alT xs f a L 0 = alT xs f a (L - k) k) (fun i => L - (intOf i).toNat)
        case atStart => exact ⟨0, rfl, by omega, rfl⟩
        case round =>
          obtain ⟨k, rfl, hk, hg⟩ := hrel
          by_cases hlt : k < L
          · rw [show L - k = (L - (k + 1)) + 1 from by omega, alT_step xs f a (L - (k + 1)) k] at hg
            obtain ⟨b, o, rfl, hbl, hc0⟩ := hI k (by omega)
            obtain ⟨s0, s1⟩ := hbd.out k (by omega)
            have hi0 : (0 : Int) ≤ (k : Int) := Int.natCast_nonneg _
            have hi1 : (k : Int) < (L : Int) := by omega
            generalize xs.getD k 0 = s at hc0 hg s0 s1
            by_cases hfk : f ≤ k
            · by_cases hz : s % a = 0
              · rw [if_pos ⟨hfk, hz⟩] at hg
                have hz' : (s % a == 0) = true := by rw [hz]; rfl
                have Hg := Lib.hid hg
                clear hg hz
                go_wp2
                go_ret2
                exact ⟨ret_pair (by rw [Hg.out]) (by rw [Hg.out]; simp), hb⟩
              · rw [if_neg (fun h => hz h.2)] at hg
                have hz' : (s % a == 0) = false := by rw [beq_eq_false_iff_ne]; exact hz
                have Hg := Lib.hid hg
                clear hg hz
                go_wp2
                go_round
                case rel => exact ⟨k + 1, by go_num, by omega, Hg.out⟩
                case measure => simp [intOf]; omega
            · rw [if_neg (fun h => hfk h.1)] at hg
              have Hg := Lib.hid hg
              clear hg
              go_wp2
              go_round
              case rel => exact ⟨k + 1, by go_num, by omega, Hg.out⟩
              case measure => simp [intOf]; omega
          · rw [show L - k = 0 from by omega] at hg
            have Hg := Lib.hid (show alT xs f a L 0 = -1 from hg)
            clear hg
            go_wp2
            go_ret2
            exact ⟨ret_pair (by rw [Hg.out]) (by rw [Hg.out]; rfl), hb⟩
      · have hal : isAl a = false := by unfold isAl; rw [decide_eq_false (fun h => hle h.2)]; rfl
        rw [hal, if_neg (by simp)]
        clear hal hp
        go_enter Try.func44, Try.ntmps44
        go_wp2_with (first
          | (go_at_call 42; refine (C.out _).mono ?_; rintro e w1 ⟨rfl, hb1⟩)
          | (go_at_call 35; refine (P.out _).mono ?_; rintro e w' ⟨rfl, rfl⟩))
        go_ret2
        exact ⟨rfl, hb1⟩
theorem other_calls (v : Int) (h : v = 0 ∨ v = 1) (w : World) : Calls Try.prog 60 #[.int .i64 v] w fun e w' => e = .returned (.int .i64 (1 - v)) ∧ w = w' := by
  rcases h with rfl | rfl
  all_goals
    go_enter Try.func60, Try.ntmps60
    go_wp2
    go_ret
    exact ⟨rfl, rfl⟩
theorem sizeT_version (v c : Int) (h : sizeT v c ≠ 0) : v = 0 ∨ v = 1 := by
  apply Classical.byContradiction
  intro hv
  apply h
  unfold sizeT tb
  rw [if_neg (fun h => hv (.inl h)), if_neg (fun h => hv (.inr h))]
  rw [if_neg (by simp)]
def twinV (v c : Int) : Int := if sizeT v c = 0 then -1 else placeV (tb (1 - v)) (sizeT v c)
set_option maxRecDepth 100000 in
theorem twin_calls (v c : Int) (w : World) : Calls Try.prog 49 #[.int .i64 v, .int .i64 c] w fun e w' => e = .returned (.int .i64 (twinV v c)) ∧ Below w.heap.size w w' := by
  unfold twinV
  have Z := Lib.hid (size_calls v c)
  have hv := sizeT_version v c
  generalize sizeT v c = s at Z hv ⊢
  by_cases hs : s = 0
  · subst hs
    rw [if_pos rfl]
    clear hv
    go_enter Try.func49, Try.ntmps49
    go_wp2_with (first
      | (go_at_call 46; refine (Z.out _).mono ?_; rintro e w1 ⟨rfl, hb1⟩))
    go_ret
    exact ⟨rfl, hb1⟩
  · rw [if_neg hs]
    have hs' : (s == 0) = false := by rw [beq_eq_false_iff_ne]; exact hs
    have O := Lib.hid (other_calls v (hv hs))
    have S := Lib.hid (sizes_calls (1 - v))
    have I := Lib.hid (fun A c w h => index_calls (tb (1 - v)) A c s w h (tb_len _))
    generalize placeV (tb (1 - v)) s = p at I ⊢
    generalize tb (1 - v) = xs at S I
    generalize 1 - v = u at O S
    clear hv hs
    go_enter Try.func49, Try.ntmps49
    go_wp2_with (first
      | (go_at_call 46; refine (Z.out _).mono ?_; rintro e w1 ⟨rfl, hb1⟩)
      | (go_at_call 60; refine (O.out _).mono ?_; rintro e w' ⟨rfl, rfl⟩)
      | (go_at_call 45; refine (S.out _).mono ?_; rintro e w2 ⟨A, cc, rfl, hI, hb2⟩)
      | (go_at_call 59; refine (I.out _ _ _ hI).mono ?_; rintro e w' ⟨rfl, rfl⟩))
    go_ret
    exact ⟨rfl, below_then hb1 hb2⟩
def bothV (n : Int) : Bool := decide (0 ≤ placeV (tb 0) n) && decide (0 ≤ placeV (tb 1) n)
set_option maxRecDepth 100000 in
theorem both_calls (n : Int) (w : World) : Calls Try.prog 50 #[.int .i64 n] w fun e w' => e = .returned (.bool (bothV n)) ∧ Below w.heap.size w w' := by
  unfold bothV
  have S0 := Lib.hid (sizes_calls 0)
  have S1 := Lib.hid (sizes_calls 1)
  have C0 := Lib.hid (fun A c w h => contains_calls (tb 0) A c n w h (tb_len _))
  have C1 := Lib.hid (fun A c w h => contains_calls (tb 1) A c n w h (tb_len _))
  generalize decide (0 ≤ placeV (tb 0) n) = p at C0 ⊢
  generalize decide (0 ≤ placeV (tb 1) n) = q at C1 ⊢
  generalize tb 0 = xs at S0 C0
  generalize tb 1 = ys at S1 C1
  cases p
  · go_enter Try.func50, Try.ntmps50
    go_wp2_with (first
      | (go_at_call 45; (with_reducible refine (S0.out _).mono ?_); rintro e w1 ⟨A, cc, rfl, hI, hb1⟩)
      | (go_at_call 61; (with_reducible refine (C0.out _ _ _ hI).mono ?_); rintro e w' ⟨rfl, rfl⟩))
    go_ret
    exact ⟨rfl, hb1⟩
  · go_enter Try.func50, Try.ntmps50
    go_wp2_with (first
      | (go_at_call 45; (with_reducible refine (S0.out _).mono ?_); rintro e w1 ⟨A, cc, rfl, hI, hb1⟩)
      | (go_at_call 61; (with_reducible refine (C0.out _ _ _ hI).mono ?_); rintro e w' ⟨rfl, rfl⟩)
      | (go_at_call 45; (with_reducible refine (S1.out _).mono ?_); rintro e w2 ⟨A2, cc2, rfl, hI2, hb2⟩)
      | (go_at_call 61; (with_reducible refine (C1.out _ _ _ hI2).mono ?_); rintro e w' ⟨rfl, rfl⟩))
    go_ret
    exact ⟨by simp, below_then hb1 hb2⟩
end Go.Proofs.Ythkpfeikpmcpeaa.Tbb
