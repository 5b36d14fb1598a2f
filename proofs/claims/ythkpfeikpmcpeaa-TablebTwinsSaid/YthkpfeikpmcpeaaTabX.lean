/- Layer 5: the law TableaAnswers, walked. -/
import Derived.Test.YthkpfeikpmcpeaaTabW
import Derived.Test.YthkpfeikpmcpeaaSame
set_option linter.unusedVariables false
namespace Go.Proofs.Ythkpfeikpmcpeaa.Tab
open Go.RowKit Go.Proofs.Ythkpfeikpmcpeaa.Aid
theorem ralign_calls (a : Int) (w : World) : Calls Try.prog 19 #[.int .i64 a] w fun e w' => e = .returned (.bool (isAl a)) ∧ w = w' := by
  go_enter Try.func19, Try.ntmps19
  go_wp2
  go_loop [3] (fun i => ∃ (k : Nat), i = .int .i64 ((2 ^ k : Nat) : Int) ∧ k ≤ 13 ∧ ∀ j, j < k → a ≠ ((2 ^ j : Nat) : Int)) (fun i => 8192 - (intOf i).toNat)
  case atStart => exact ⟨0, rfl, by omega, fun j hj => absurd hj (by omega)⟩
  case round =>
    obtain ⟨k, rfl, hk, hno⟩ := hrel
    have Hno := Lib.hid hno
    have hp : 2 ^ k ≤ 2 ^ 13 := Nat.pow_le_pow_right (by decide) hk
    have hp0 := Nat.two_pow_pos k
    have Hs := Lib.hid (Nat.pow_succ 2 k)
    have Hk := Lib.hid (show k ≤ 12 ↔ 2 ^ k ≤ 4096 from ⟨fun h => Nat.pow_le_pow_right (n := 2) (by decide) h, fun h => by
      apply Classical.byContradiction
      intro hc
      have : k = 13 := by omega
      subst this
      exact absurd h (by decide)⟩)
    have Hi := Lib.hid (isPow_iff a)
    clear hno
    generalize hP : 2 ^ k = P at hp hp0 Hs Hk ⊢
    have HP := Lib.hid hP
    clear hP
    by_cases hlt : P ≤ 4096
    · by_cases he : (P : Int) = a
      · have ht : isAl a = true := by
          unfold isAl
          rw [Hi.out.2 ⟨k, by have := Hk.out.2 hlt; omega, by rw [HP.out]; exact he.symm⟩, decide_eq_true (by omega)]; rfl
        have Ht := Lib.hid ht
        clear ht
        go_wp2
        go_ret
        exact ⟨ret_bool Ht.out.symm, rfl⟩
      · have he' : ((P : Int) == a) = false := by rw [beq_eq_false_iff_ne]; exact he
        have He := Lib.hid he
        clear he
        go_wp2
        go_round
        case rel => exact ⟨k + 1, by rw [Hs.out]; go_num, by have := Hk.out.2 hlt; omega, fun j hj => by
          by_cases hjk : j < k
          · exact Hno.out j hjk
          · obtain rfl : j = k := by omega
            rw [HP.out]; exact fun h => He.out h.symm⟩
        case measure => simp [intOf]; omega
    · have hf : isAl a = false := by
        cases hx : isAl a
        · rfl
        · unfold isAl at hx
          rw [Bool.and_eq_true] at hx
          obtain ⟨j, hj, hjn⟩ := Hi.out.1 hx.2
          have h1 := of_decide_eq_true hx.1
          have hx' : ¬ k ≤ 12 := fun h => hlt (Hk.out.1 h)
          have : j < k := by
            apply Classical.byContradiction
            intro hc
            have : 2 ^ 13 ≤ 2 ^ j := Nat.pow_le_pow_right (by decide) (by omega)
            omega
          exact absurd hjn (Hno.out j this)
      have Hf := Lib.hid hf
      clear hf
      go_wp2
      go_ret
      exact ⟨ret_bool Hf.out.symm, rfl⟩
set_option maxRecDepth 100000 in
theorem rsizes_calls (w : World) : Calls Try.prog 15 #[] w fun e w' => ∃ T, e = .returned (.slice (some ⟨w.heap.size, 0, none⟩) 16 16) ∧ w' = w.alloc (.cells tabC T) := by
  go_enter Try.func15, Try.ntmps15
  go_wp2
  go_ret
  exact ⟨_, rfl, rfl⟩
theorem tab_Ints (w : World) (T : TypeId) : Ints (w.alloc (.cells tabC T)) .i64 (some ⟨w.heap.size, 0, none⟩) tab := fun k hk =>
  ⟨w.heap.size, 0, rfl, by simp, tab_cells w T k hk⟩
theorem rsizes_ints (w : World) : Calls Try.prog 15 #[] w fun e w' => ∃ b o, e = .returned (.slice (some ⟨b, o, none⟩) 16 16) ∧ b < w'.heap.size ∧ Ints w' .i64 (some ⟨b, o, none⟩) tab ∧ Below w.heap.size w w' := by
  refine (rsizes_calls w).mono ?_
  rintro e w' ⟨T, rfl, rfl⟩
  exact ⟨_, _, rfl, by simp, tab_Ints w T, (Below.refl _ _).alloc (Nat.le_refl _) _⟩
set_option maxRecDepth 100000 in
set_option maxHeartbeats 4000000 in
theorem answers_walk (n a c : Int) (hn : -9223372036854775808 ≤ n ∧ n < 9223372036854775808) (ha : -9223372036854775808 ≤ a ∧ a < 9223372036854775808) (hc : -9223372036854775808 ≤ c ∧ c < 9223372036854775808) (w : World) :
    Calls Try.prog 3 #[.int .i64 n, .int .i64 a, .int .i64 c] w fun e w' => e = .returned (.bool true) ∧ Below w.heap.size w w' := by
  have L := Lib.hid alive_calls
  have C := Lib.hid (class_calls n)
  have F1 := Lib.hid (first_calls n 1 (by decide))
  obtain ⟨e1, e2⟩ := class_first n
  rw [e1, e2] at C
  have ho1 : ∃ o1, o1 = decide (0 ≤ firstV n 1) := ⟨_, rfl⟩
  obtain ⟨o1, ho1⟩ := ho1
  rw [← ho1] at C
  generalize firstV n 1 = f1 at C F1 ho1
  have ho1' : (o1 == decide (0 ≤ f1)) = true := by rw [ho1]; simp
  have hf1 : (f1 == f1) = true := by simp
  clear ho1
  have AL := Lib.hid (aligned_calls n a ha)
  have RA := Lib.hid (ralign_calls a)
  have F2 : isAl a = true → ∀ (A : Option Addr) (c : Nat) (w : World), Ints w .i64 A tab → Calls Try.prog 17 #[.slice A 16 c, .int .i64 n, .int .i64 a] w fun e w' => e = .returned (.int .i64 (firstV n a)) ∧ w = w' := fun h => first_calls n a ⟨by
    unfold isAl at h; rw [Bool.and_eq_true] at h; exact (of_decide_eq_true h.1).1, ha.2⟩
  have hal := aligned_first n a
  have hB : ∃ o2, o2 = alignedB n a ∧ o2 = decide (0 ≤ alignedV n a) := ⟨_, rfl, rfl⟩
  obtain ⟨o2, ho2, ho2'⟩ := hB
  rw [← ho2] at AL
  rw [hal] at ho2'
  rw [hal] at AL
  have SZ := Lib.hid (size_calls c)
  have SL := Lib.hid (slots_calls c)
  have hT0 := Lib.hid (fun (w1 : World) (T : TypeId) => tab_Ints w1 T)
  have htl : tab.length = 16 := rfl
  have hc0 := hc.1
  have hc1 := hc.2
  have SM : ∀ (A A' : Option Addr) (c c' : Nat) (w : World), Ints w .i64 A tab → Ints w .i64 A' tab → Calls Try.prog 21 #[.slice A 16 c, .slice A' 16 c'] w fun e w' => e = .returned (.bool true) ∧ ∃ nq, w' = w.drewN nq := fun A A' c c' w h h' => by
    have := same_ints tab tab A A' c c' w h h' (by decide)
    rwa [show (tab == tab) = true from by simp] at this
  have SM := Lib.hid SM
  have SS : ∀ w, Calls Try.prog 20 #[] w fun e w' => ∃ b c, e = .returned (.slice (some ⟨b, 0, none⟩) 16 c) ∧ w.heap.size ≤ b ∧ b < w'.heap.size ∧ Ints w' .i64 (some ⟨b, 0, none⟩) tab ∧ w'.cell? ⟨b, 0, none⟩ = some (.int .i64 16) ∧ w'.frozen? ⟨b, 0, none⟩ = false ∧ Below w.heap.size w w' := fun w => by
    refine (sizes_calls w).mono ?_
    rintro e w' ⟨v, rfl, hown, hb⟩
    obtain ⟨h1, h2⟩ := hown
    rcases h2 with ⟨rfl, h0⟩ | ⟨g, cap, cur, rfl, hg, hh, r⟩
    · exact absurd h0 (by decide)
    · obtain ⟨A, c, hv, hi⟩ := (show Own w' w.heap.size 3 .i64 (.slice (some ⟨g, 0, none⟩) tab.length cap) tab from ⟨h1, .inr ⟨g, cap, cur, rfl, hg, hh, r⟩⟩).shape
      injection hv with hA _ _
      subst hA
      obtain ⟨b, o, he, hlt, hcell⟩ := hi 0 (by decide)
      injection he with he; injection he with he1 he2
      subst he1; subst he2
      refine ⟨g, cap, rfl, hg, hlt, hi, hcell, ?_, hb⟩
      simp [World.frozen?, hh]
  have SS := Lib.hid SS
  have RS := Lib.hid rsizes_ints
  clear hT0 htl hc ha hn hal e1 e2
  cases hia : isAl a
  · rw [hia] at RA ho2'
    rw [hia, if_neg (by simp)] at AL
    rw [if_neg (by simp)] at ho2'
    obtain rfl : o2 = false := ho2'
    clear F2 ho2 hia
    by_cases hcr : 0 ≤ c ∧ c < 16
    · obtain ⟨k, rfl⟩ := Int.eq_ofNat_of_zero_le hcr.1
      have hk : k < 16 := by omega
      have hsz : sizeV (k : Int) = tab.getD k 0 := by unfold sizeV; rw [if_pos hcr, Int.toNat_natCast]
      have hsl : slotsV (k : Int) = 1024 / tab.getD k 0 := by
        have := (tab_bounds k hk).1
        unfold slotsV; rw [hsz, if_neg (by omega)]
      rw [hsz] at SZ
      rw [hsl] at SL
      obtain ⟨s0, s1⟩ := tab_bounds k hk
      have HG := Lib.hid (fun (w3 : World) (b o : Nat) (h : Ints w3 .i64 (some ⟨b, o, none⟩) tab) => (show w3.cell? ⟨b, o + k, none⟩ = some (.int .i64 (tab.getD k 0)) from by
        obtain ⟨_, _, he, _, hc3⟩ := h k hk
        injection he with he; injection he with he1 he2; subst he1; subst he2; exact hc3))
      clear hcr hsz hsl
      generalize tab.getD k 0 = s at SZ SL s0 s1 HG
      have hk1 : (k : Int) < 16 := by omega
      have hk0 : 0 ≤ (k : Int) := by omega
      have hs0 : (s == 0) = false := by rw [beq_eq_false_iff_ne]; omega
      clear hk hc0 hc1
      go_enter Try.func3, Try.ntmps3
      go_wp2_with (first
        | (go_at_call 14; refine (L.out _).mono ?_; rintro e w1 ⟨rfl, hb1⟩)
        | (go_at_call 15; refine (RS.out _).mono ?_; rintro e w2 ⟨b, o, rfl, hbl2, hT2, hb2⟩; have hw2 := below_then hb1 hb2)
        | (go_at_call 16; refine (C.out _).mono ?_; rintro e w3 ⟨rfl, hb3⟩; have hT3 := hT2.below hb3; have hw3 := below_then hw2 hb3; have hbl3 := Nat.lt_of_lt_of_le hbl2 hb3.size; have hc3 := HG.out _ _ _ hT3)
        | (go_at_call 17; (with_reducible refine (F1.out _ _ _ hT3).mono ?_); rintro e w' ⟨rfl, rfl⟩)
        | (go_at_call 18; refine (AL.out _).mono ?_; rintro e w4 ⟨rfl, hb4⟩; have hT4 := hT3.below hb4; have hw4 := below_then hw3 hb4; have hbl4 := Nat.lt_of_lt_of_le hbl3 hb4.size)
        | (go_at_call 19; refine (RA.out _).mono ?_; rintro e w' ⟨rfl, rfl⟩)
        | (go_at_call 20; refine (SS.out w4).mono ?_; rintro e w5 ⟨b5, c5, rfl, hge5, hlt5, hI5, hc5, hf5, hb5⟩; have hT5 := hT4.below hb5; have hw5 := below_then hw4 hb5)
        | (go_at_call 21; refine (SM.out _ _ _ _ w5 hI5 hT5).mono ?_; rintro e w6 ⟨rfl, nq, rfl⟩))
      have hb6 : Below w4.heap.size w4 ((w5.drewN nq).setCell ⟨b5, 0, none⟩ (.int .i64 17)) := (below_drewN hb5 nq).setCell hge5 _
      have hT6 := hT4.below hb6
      have hw6 := below_then hw4 hb6
      generalize (w5.drewN nq).setCell ⟨b5, 0, none⟩ (.int .i64 17) = w6 at hb6 hT6 hw6 ⊢
      clear hT5 hI5 hc5 hf5 hw5 hb5 hb6
      go_wp2_with (first
        | (go_at_call 22; refine (SZ.out _).mono ?_; rintro e w7 ⟨rfl, hb7⟩; have hT7 := hT6.below hb7; have hw7 := below_then hw6 hb7)
        | (go_at_call 23; refine (SL.out _).mono ?_; rintro e w8 ⟨rfl, hb8⟩; have hT8 := hT7.below hb8; have hw8 := below_then hw7 hb8)
        | (go_at_call 20; refine (SS.out w8).mono ?_; rintro e w9 ⟨b9, c9, rfl, hge9, hlt9, hI9, hc9, hf9, hb9⟩; have hT9 := hT8.below hb9; have hw9 := below_then hw8 hb9)
        | (go_at_call 21; refine (SM.out _ _ _ _ w9 hI9 hT9).mono ?_; rintro e w10 ⟨rfl, nq', rfl⟩))
      go_ret
      exact ⟨ret_bool (by first | rfl | assumption | (simp; done) | (simp [*]; done)), below_drewN hw9 _⟩
    · have hsz : sizeV c = 0 := by unfold sizeV; rw [if_neg hcr]
      have hsl : slotsV c = 0 := by unfold slotsV; rw [hsz]; rfl
      rw [hsz] at SZ
      rw [hsl] at SL
      have hcr' : c < 0 ∨ 0 ≤ c ∧ 16 ≤ c := by omega
      clear hsz hsl hcr hc0 hc1
      rcases hcr' with hc0 | ⟨hc0, hc1⟩
      all_goals
        go_enter Try.func3, Try.ntmps3
        go_wp2_with (first
          | (go_at_call 14; refine (L.out _).mono ?_; rintro e w1 ⟨rfl, hb1⟩)
          | (go_at_call 15; refine (RS.out _).mono ?_; rintro e w2 ⟨b, o, rfl, hbl2, hT2, hb2⟩; have hw2 := below_then hb1 hb2)
          | (go_at_call 16; refine (C.out _).mono ?_; rintro e w3 ⟨rfl, hb3⟩; have hT3 := hT2.below hb3; have hw3 := below_then hw2 hb3; have hbl3 := Nat.lt_of_lt_of_le hbl2 hb3.size)
          | (go_at_call 17; (with_reducible refine (F1.out _ _ _ hT3).mono ?_); rintro e w' ⟨rfl, rfl⟩)
          | (go_at_call 18; refine (AL.out _).mono ?_; rintro e w4 ⟨rfl, hb4⟩; have hT4 := hT3.below hb4; have hw4 := below_then hw3 hb4; have hbl4 := Nat.lt_of_lt_of_le hbl3 hb4.size)
          | (go_at_call 19; refine (RA.out _).mono ?_; rintro e w' ⟨rfl, rfl⟩)
          | (go_at_call 20; refine (SS.out w4).mono ?_; rintro e w5 ⟨b5, c5, rfl, hge5, hlt5, hI5, hc5, hf5, hb5⟩; have hT5 := hT4.below hb5; have hw5 := below_then hw4 hb5)
          | (go_at_call 21; refine (SM.out _ _ _ _ w5 hI5 hT5).mono ?_; rintro e w6 ⟨rfl, nq, rfl⟩))
        have hb6 : Below w4.heap.size w4 ((w5.drewN nq).setCell ⟨b5, 0, none⟩ (.int .i64 17)) := (below_drewN hb5 nq).setCell hge5 _
        have hT6 := hT4.below hb6
        have hw6 := below_then hw4 hb6
        generalize (w5.drewN nq).setCell ⟨b5, 0, none⟩ (.int .i64 17) = w6 at hb6 hT6 hw6 ⊢
        clear hT5 hI5 hc5 hf5 hw5 hb5 hb6
        go_wp2_with (first
          | (go_at_call 22; refine (SZ.out _).mono ?_; rintro e w7 ⟨rfl, hb7⟩; have hT7 := hT6.below hb7; have hw7 := below_then hw6 hb7)
          | (go_at_call 23; refine (SL.out _).mono ?_; rintro e w8 ⟨rfl, hb8⟩; have hT8 := hT7.below hb8; have hw8 := below_then hw7 hb8)
          | (go_at_call 20; refine (SS.out w8).mono ?_; rintro e w9 ⟨b9, c9, rfl, hge9, hlt9, hI9, hc9, hf9, hb9⟩; have hT9 := hT8.below hb9; have hw9 := below_then hw8 hb9)
          | (go_at_call 21; refine (SM.out _ _ _ _ w9 hI9 hT9).mono ?_; rintro e w10 ⟨rfl, nq', rfl⟩))
        go_ret
        exact ⟨ret_bool (by first | rfl | assumption | (simp; done) | (simp [*]; done)), below_drewN hw9 _⟩
  · rw [hia] at RA ho2'
    rw [hia, if_pos rfl] at AL
    rw [if_pos rfl] at ho2'
    have F2 := Lib.hid (F2 hia)
    generalize firstV n a = f2 at AL F2 ho2'
    have ho3 : (o2 == decide (0 ≤ f2)) = true := by rw [ho2']; simp
    clear ho2 hia ho2'
    by_cases hcr : 0 ≤ c ∧ c < 16
    · obtain ⟨k, rfl⟩ := Int.eq_ofNat_of_zero_le hcr.1
      have hk : k < 16 := by omega
      have hsz : sizeV (k : Int) = tab.getD k 0 := by unfold sizeV; rw [if_pos hcr, Int.toNat_natCast]
      have hsl : slotsV (k : Int) = 1024 / tab.getD k 0 := by
        have := (tab_bounds k hk).1
        unfold slotsV; rw [hsz, if_neg (by omega)]
      rw [hsz] at SZ
      rw [hsl] at SL
      obtain ⟨s0, s1⟩ := tab_bounds k hk
      have HG := Lib.hid (fun (w3 : World) (b o : Nat) (h : Ints w3 .i64 (some ⟨b, o, none⟩) tab) => (show w3.cell? ⟨b, o + k, none⟩ = some (.int .i64 (tab.getD k 0)) from by
        obtain ⟨_, _, he, _, hc3⟩ := h k hk
        injection he with he; injection he with he1 he2; subst he1; subst he2; exact hc3))
      clear hcr hsz hsl
      generalize tab.getD k 0 = s at SZ SL s0 s1 HG
      have hk1 : (k : Int) < 16 := by omega
      have hk0 : 0 ≤ (k : Int) := by omega
      have hs0 : (s == 0) = false := by rw [beq_eq_false_iff_ne]; omega
      clear hk hc0 hc1
      go_enter Try.func3, Try.ntmps3
      go_wp2_with (first
        | (go_at_call 14; refine (L.out _).mono ?_; rintro e w1 ⟨rfl, hb1⟩)
        | (go_at_call 15; refine (RS.out _).mono ?_; rintro e w2 ⟨b, o, rfl, hbl2, hT2, hb2⟩; have hw2 := below_then hb1 hb2)
        | (go_at_call 16; refine (C.out _).mono ?_; rintro e w3 ⟨rfl, hb3⟩; have hT3 := hT2.below hb3; have hw3 := below_then hw2 hb3; have hbl3 := Nat.lt_of_lt_of_le hbl2 hb3.size; have hc3 := HG.out _ _ _ hT3)
        | (go_at_call 17; (with_reducible refine (F1.out _ _ _ hT3).mono ?_); rintro e w' ⟨rfl, rfl⟩)
        | (go_at_call 18; refine (AL.out _).mono ?_; rintro e w4 ⟨rfl, hb4⟩; have hT4 := hT3.below hb4; have hw4 := below_then hw3 hb4; have hbl4 := Nat.lt_of_lt_of_le hbl3 hb4.size)
        | (go_at_call 19; refine (RA.out _).mono ?_; rintro e w' ⟨rfl, rfl⟩)
        | (go_at_call 17; (with_reducible refine (F2.out _ _ _ hT4).mono ?_); rintro e w' ⟨rfl, rfl⟩)
        | (go_at_call 20; refine (SS.out w4).mono ?_; rintro e w5 ⟨b5, c5, rfl, hge5, hlt5, hI5, hc5, hf5, hb5⟩; have hT5 := hT4.below hb5; have hw5 := below_then hw4 hb5)
        | (go_at_call 21; refine (SM.out _ _ _ _ w5 hI5 hT5).mono ?_; rintro e w6 ⟨rfl, nq, rfl⟩))
      have hb6 : Below w4.heap.size w4 ((w5.drewN nq).setCell ⟨b5, 0, none⟩ (.int .i64 17)) := (below_drewN hb5 nq).setCell hge5 _
      have hT6 := hT4.below hb6
      have hw6 := below_then hw4 hb6
      generalize (w5.drewN nq).setCell ⟨b5, 0, none⟩ (.int .i64 17) = w6 at hb6 hT6 hw6 ⊢
      clear hT5 hI5 hc5 hf5 hw5 hb5 hb6
      go_wp2_with (first
        | (go_at_call 22; refine (SZ.out _).mono ?_; rintro e w7 ⟨rfl, hb7⟩; have hT7 := hT6.below hb7; have hw7 := below_then hw6 hb7)
        | (go_at_call 23; refine (SL.out _).mono ?_; rintro e w8 ⟨rfl, hb8⟩; have hT8 := hT7.below hb8; have hw8 := below_then hw7 hb8)
        | (go_at_call 20; refine (SS.out w8).mono ?_; rintro e w9 ⟨b9, c9, rfl, hge9, hlt9, hI9, hc9, hf9, hb9⟩; have hT9 := hT8.below hb9; have hw9 := below_then hw8 hb9)
        | (go_at_call 21; refine (SM.out _ _ _ _ w9 hI9 hT9).mono ?_; rintro e w10 ⟨rfl, nq', rfl⟩))
      go_ret
      exact ⟨ret_bool (by first | rfl | assumption | (simp; done) | (simp [*]; done)), below_drewN hw9 _⟩
    · have hsz : sizeV c = 0 := by unfold sizeV; rw [if_neg hcr]
      have hsl : slotsV c = 0 := by unfold slotsV; rw [hsz]; rfl
      rw [hsz] at SZ
      rw [hsl] at SL
      have hcr' : c < 0 ∨ 0 ≤ c ∧ 16 ≤ c := by omega
      clear hsz hsl hcr hc0 hc1
      rcases hcr' with hc0 | ⟨hc0, hc1⟩
      all_goals
        go_enter Try.func3, Try.ntmps3
        go_wp2_with (first
          | (go_at_call 14; refine (L.out _).mono ?_; rintro e w1 ⟨rfl, hb1⟩)
          | (go_at_call 15; refine (RS.out _).mono ?_; rintro e w2 ⟨b, o, rfl, hbl2, hT2, hb2⟩; have hw2 := below_then hb1 hb2)
          | (go_at_call 16; refine (C.out _).mono ?_; rintro e w3 ⟨rfl, hb3⟩; have hT3 := hT2.below hb3; have hw3 := below_then hw2 hb3; have hbl3 := Nat.lt_of_lt_of_le hbl2 hb3.size)
          | (go_at_call 17; (with_reducible refine (F1.out _ _ _ hT3).mono ?_); rintro e w' ⟨rfl, rfl⟩)
          | (go_at_call 18; refine (AL.out _).mono ?_; rintro e w4 ⟨rfl, hb4⟩; have hT4 := hT3.below hb4; have hw4 := below_then hw3 hb4; have hbl4 := Nat.lt_of_lt_of_le hbl3 hb4.size)
          | (go_at_call 19; refine (RA.out _).mono ?_; rintro e w' ⟨rfl, rfl⟩)
          | (go_at_call 17; (with_reducible refine (F2.out _ _ _ hT4).mono ?_); rintro e w' ⟨rfl, rfl⟩)
          | (go_at_call 20; refine (SS.out w4).mono ?_; rintro e w5 ⟨b5, c5, rfl, hge5, hlt5, hI5, hc5, hf5, hb5⟩; have hT5 := hT4.below hb5; have hw5 := below_then hw4 hb5)
          | (go_at_call 21; refine (SM.out _ _ _ _ w5 hI5 hT5).mono ?_; rintro e w6 ⟨rfl, nq, rfl⟩))
        have hb6 : Below w4.heap.size w4 ((w5.drewN nq).setCell ⟨b5, 0, none⟩ (.int .i64 17)) := (below_drewN hb5 nq).setCell hge5 _
        have hT6 := hT4.below hb6
        have hw6 := below_then hw4 hb6
        generalize (w5.drewN nq).setCell ⟨b5, 0, none⟩ (.int .i64 17) = w6 at hb6 hT6 hw6 ⊢
        clear hT5 hI5 hc5 hf5 hw5 hb5 hb6
        go_wp2_with (first
          | (go_at_call 22; refine (SZ.out _).mono ?_; rintro e w7 ⟨rfl, hb7⟩; have hT7 := hT6.below hb7; have hw7 := below_then hw6 hb7)
          | (go_at_call 23; refine (SL.out _).mono ?_; rintro e w8 ⟨rfl, hb8⟩; have hT8 := hT7.below hb8; have hw8 := below_then hw7 hb8)
          | (go_at_call 20; refine (SS.out w8).mono ?_; rintro e w9 ⟨b9, c9, rfl, hge9, hlt9, hI9, hc9, hf9, hb9⟩; have hT9 := hT8.below hb9; have hw9 := below_then hw8 hb9)
          | (go_at_call 21; refine (SM.out _ _ _ _ w9 hI9 hT9).mono ?_; rintro e w10 ⟨rfl, nq', rfl⟩))
        go_ret
        exact ⟨ret_bool (by first | rfl | assumption | (simp; done) | (simp [*]; done)), below_drewN hw9 _⟩
end Go.Proofs.Ythkpfeikpmcpeaa.Tab
