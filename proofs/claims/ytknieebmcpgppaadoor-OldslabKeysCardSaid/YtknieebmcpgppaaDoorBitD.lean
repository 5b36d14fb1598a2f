/- The contract of package bits' First. -/
import Derived.Test.YtknieebmcpgppaaDoorBitC
import Derived.Deep.DeepCutAuto
namespace Go.Proofs.YtknieebmcpgppaaDoor.Bit
open Go.RowKit Go.Proofs.YtknieebmcpgppaaDoor.Aid
/-- The least bit from one on that is so. -/
def firstGo (l : List Bool) (s : Bool) : Nat → Nat → Int
  | 0, _ => -1
  | f + 1, i => if l.getD i false = s then (i : Int) else firstGo l s f (i + 1)
def first (l : List Bool) (i : Nat) (s : Bool) : Int := firstGo l s (l.length - i) i
def IsFirst (l : List Bool) (i : Nat) (s : Bool) (r : Int) : Prop :=
  (r = -1 ∧ ∀ j, i ≤ j → j < l.length → l.getD j false ≠ s) ∨ (∃ k : Nat, r = k ∧ i ≤ k ∧ k < l.length ∧ l.getD k false = s ∧ ∀ j, i ≤ j → j < k → l.getD j false ≠ s)
theorem firstGo_is (l : List Bool) (s : Bool) : ∀ f i, i + f = l.length ∨ (f = 0 ∧ l.length ≤ i) → IsFirst l i s (firstGo l s f i)
  | 0, i, h => .inl ⟨rfl, fun j h1 h2 => by omega⟩
  | f + 1, i, h => by
    unfold firstGo
    by_cases hs : l.getD i false = s
    · rw [if_pos hs]
      exact .inr ⟨i, rfl, Nat.le_refl _, by omega, hs, fun j h1 h2 => by omega⟩
    · rw [if_neg hs]
      rcases firstGo_is l s f (i + 1) (by omega) with ⟨h1, h2⟩ | ⟨k, h1, h2, h3, h4, h5⟩
      · refine .inl ⟨h1, fun j h3 h4 => ?_⟩
        by_cases hj : j = i
        · subst hj; exact hs
        · exact h2 j (by omega) h4
      · refine .inr ⟨k, h1, by omega, h3, h4, fun j h6 h7 => ?_⟩
        by_cases hj : j = i
        · subst hj; exact hs
        · exact h5 j (by omega) h7
theorem first_is (l : List Bool) (i : Nat) (s : Bool) : IsFirst l i s (first l i s) := firstGo_is l s _ _ (by omega)
theorem isFirst_eq {l : List Bool} {i : Nat} {s : Bool} {r r' : Int} (h : IsFirst l i s r) (h' : IsFirst l i s r') : r = r' := by
  rcases h with ⟨h1, h2⟩ | ⟨k, h1, h2, h3, h4, h5⟩ <;> rcases h' with ⟨g1, g2⟩ | ⟨k', g1, g2, g3, g4, g5⟩
  · omega
  · exact absurd g4 (h2 k' g2 g3)
  · exact absurd h4 (g2 k h2 h3)
  · rcases Nat.lt_trichotomy k k' with h | h | h
    · exact absurd h4 (g5 k h2 h)
    · omega
    · exact absurd g4 (h5 k' g2 h)
theorem first_eq {l : List Bool} {i : Nat} {s : Bool} {r : Int} (h : IsFirst l i s r) : r = first l i s := isFirst_eq h (first_is l i s)
theorem ret_i {a b : Int} (h : a = b) : Value.int .i64 a = .int .i64 b := by rw [h]
theorem ctz_bit (x : Nat) (h0 : x ≠ 0) (h : x < 18446744073709551616) : Lib.ctz 64 x < 64 ∧ x.testBit (Lib.ctz 64 x) = true ∧ ∀ j, j < Lib.ctz 64 x → x.testBit j = false := by
  obtain ⟨m, hm, hlt⟩ := Lib.ctzFrom_spec 64 x (by omega) h
  have e : Lib.ctz 64 x = Lib.ctzFrom 64 x := by unfold Lib.ctz; rw [if_neg h0]
  rw [e]
  generalize Lib.ctzFrom 64 x = c at hm hlt
  subst hm
  refine ⟨hlt, ?_, fun j hj => ?_⟩
  · rw [Nat.testBit_two_pow_mul]; simp
  · rw [Nat.testBit_two_pow_mul]; simp; omega
/-- The word in which the least bit is looked for. -/
structure Sel (l : List Bool) (i : Nat) (s : Bool) (k W : Nat) : Prop where
  lt : W < 18446744073709551616
  bit : ∀ j, j < 64 → W.testBit j = ((l.getD (64 * k + j) false == s) && decide (i ≤ 64 * k + j))
theorem Sel.found {l : List Bool} {i : Nat} {s : Bool} {k W : Nat} (h : Sel l i s k W) (ha : ∀ j, i ≤ j → j < 64 * k → j < l.length → l.getD j false ≠ s) (h0 : W ≠ 0) (hq : 64 * k + Lib.ctz 64 W < l.length) : IsFirst l i s ((64 * k + Lib.ctz 64 W : Nat) : Int) := by
  obtain ⟨h1, h2, h3⟩ := ctz_bit W h0 h.lt
  generalize Lib.ctz 64 W = c at *
  have hb := h.bit c h1
  rw [h2] at hb
  have hb := hb.symm
  rw [Bool.and_eq_true, decide_eq_true_eq, beq_iff_eq] at hb
  refine .inr ⟨64 * k + c, rfl, hb.2, hq, hb.1, fun j hj1 hj2 => ?_⟩
  by_cases hj : j < 64 * k
  · exact ha j hj1 hj (by omega)
  · have hb' := h.bit (j - 64 * k) (by omega)
    rw [h3 _ (by omega), show 64 * k + (j - 64 * k) = j by omega] at hb'
    intro e
    rw [e] at hb'
    simp [hj1] at hb'
theorem Sel.next {l : List Bool} {i : Nat} {s : Bool} {k W : Nat} (h : Sel l i s k W) (ha : ∀ j, i ≤ j → j < 64 * k → j < l.length → l.getD j false ≠ s) (hq : W = 0 ∨ l.length ≤ 64 * k + Lib.ctz 64 W) : ∀ j, i ≤ j → j < 64 * (k + 1) → j < l.length → l.getD j false ≠ s := by
  intro j hj1 hj2 hj3
  by_cases hj : j < 64 * k
  · exact ha j hj1 hj hj3
  · have hb' := h.bit (j - 64 * k) (by omega)
    have hz : W.testBit (j - 64 * k) = false := by
      by_cases h0 : W = 0
      · subst h0; simp
      · have hq' := hq.resolve_left h0
        exact (ctz_bit W h0 h.lt).2.2 _ (by omega)
    rw [hz, show 64 * k + (j - 64 * k) = j by omega] at hb'
    intro e
    rw [e] at hb'
    simp [hj1] at hb'
theorem nat_of_R {x : Int} (h : R x) : ∃ W : Nat, x = (W : Int) ∧ W < 18446744073709551616 ∧ ∀ j, j < 64 → W.testBit j = (B x).getLsbD j := by
  unfold R at h
  obtain ⟨W, rfl⟩ := Int.eq_ofNat_of_zero_le h.1
  exact ⟨W, rfl, by omega, fun j hj => (B_testBit W j hj).symm⟩
theorem B_max : B IntKind.u64.max = BitVec.allOnes 64 := rfl
/-- The word turned over, if clear bits are looked for. -/
theorem xor_bit (l : List Bool) (k j : Nat) (hj : j < 64) : (B (Go.bits .xor .u64 IntKind.u64.max (Bit.word l k))).getLsbD j = (l.getD (64 * k + j) false == false) := by
  rw [B_xor, BitVec.getLsbD_xor, word_bit _ _ _ hj, B_max, BitVec.getLsbD_allOnes]
  cases l.getD (64 * k + j) false <;> simp [hj]
theorem mask_bits (i j : Nat) (hj : j < 64) : (B (IntKind.u64.wrap (18446744073709551615 * 2 ^ (i % 64)))).getLsbD j = decide (i % 64 ≤ j) := by
  have h := B_shl 18446744073709551615 (i % 64)
  rw [Nat.min_eq_left (by omega)] at h
  rw [h, BitVec.getLsbD_shiftLeft, show B 18446744073709551615 = BitVec.allOnes 64 from rfl, BitVec.getLsbD_allOnes]
  by_cases hi : i % 64 ≤ j
  · simp [hi, hj] <;> omega
  · simp [hi] <;> omega
theorem sel_all (l : List Bool) (i k : Nat) (s : Bool) (x : Int) (hR : R x) (hx : ∀ j, j < 64 → (B x).getLsbD j = (l.getD (64 * k + j) false == s)) (hk : i / 64 < k) : ∃ W : Nat, x = (W : Int) ∧ Sel l i s k W := by
  obtain ⟨W, e, hlt, hb⟩ := nat_of_R hR
  refine ⟨W, e, hlt, fun j hj => ?_⟩
  rw [hb j hj, hx j hj]
  have : decide (i ≤ 64 * k + j) = true := by simp; omega
  rw [this, Bool.and_true]
theorem sel_mask (l : List Bool) (i k : Nat) (s : Bool) (x : Int) (hx : ∀ j, j < 64 → (B x).getLsbD j = (l.getD (64 * k + j) false == s)) (hk : k = i / 64) : ∃ W : Nat, Go.bits .and .u64 x (IntKind.u64.wrap (18446744073709551615 * 2 ^ (i % 64))) = (W : Int) ∧ Sel l i s k W := by
  obtain ⟨W, e, hlt, hb⟩ := nat_of_R (R_bits .and x (IntKind.u64.wrap (18446744073709551615 * 2 ^ (i % 64))))
  refine ⟨W, e, hlt, fun j hj => ?_⟩
  rw [hb j hj, B_and, BitVec.getLsbD_and, hx j hj, mask_bits _ _ hj]
  have : decide (i % 64 ≤ j) = decide (i ≤ 64 * k + j) := by
    rw [Bool.eq_iff_iff, decide_eq_true_eq, decide_eq_true_eq]; omega
  rw [this]
set_option maxHeartbeats 1000000 in
theorem first_walk (w : World) (p g c : Nat) (l : List Bool) (fr : Int) (s : Bool) (h : RowAt w p g c l) (hT : Tab w) (hf : fr ≤ 9223372036854775807) :
    Calls Tryd.prog 20 #[.pointer (some ⟨p, 0, none⟩), .int .i64 fr, .bool s] w fun e w' => e = .returned (.int .i64 (first l fr.toNat s)) ∧ w = w' := by
  obtain ⟨c0, c1⟩ := h.facts
  have H := Lib.hid h
  have HT := Lib.hid hT
  have hs := h.small
  have hn : nwords l.length ≤ 64 := by unfold nwords; omega
  clear h hT
  generalize hm : nwords l.length = m at c1 hn
  have Hm := Lib.hid hm
  clear hm
  generalize hi : fr.toNat = i
  have Hi := Lib.hid hi
  clear hi
  go_enter Tryd.func20, Tryd.ntmps20
  go_upto_region 1 with fail
  go_cut [1] (fun s1 wc => s1 = .int .i64 (i : Int) ∧ w = wc)
  case first =>
    all_goals (go_wp2_with fail)
    all_goals (go_meet; exact ⟨ret_i (by have := Hi.out; omega), rfl⟩)
  case rest =>
    obtain ⟨rfl, rfl⟩ := hcut
    have hi0 : (0 : Int) ≤ (i : Int) := by omega
    have hi1 : (i : Int) ≤ 9223372036854775807 := by have := Hi.out; omega
    go_wp2_with fail
    go_loop [7] (fun s7 => ∃ k : Nat, i / 64 ≤ k ∧ (k ≤ m ∨ k = i / 64) ∧ s7 = .int .i64 k ∧ ∀ j, i ≤ j → j < 64 * k → j < l.length → l.getD j false ≠ s) (fun s7 => m - (intOf s7).toNat)
    case atStart => exact ⟨i / 64, Nat.le_refl _, .inr rfl, by first | rfl | go_num, fun j h1 h2 _ => by omega⟩
    case round =>
      obtain ⟨k, hk0, hk1, rfl, hall⟩ := hrel
      have HA := Lib.hid hall
      clear hall
      by_cases hlt : k < m
      · have hc := H.out.word (k := k) (by rw [Hm.out]; exact hlt)
        have HRx := Lib.hid (R_word l k)
        have HBx := Lib.hid (fun j hj => word_bit l k j hj)
        have HBn := Lib.hid (fun j hj => xor_bit l k j hj)
        generalize Bit.word l k = x at hc HRx HBx HBn
        have hk2 : (k : Int) < (m : Int) := by omega
        have HE : Hid (∀ W : Nat, Sel l i s k W → ∃ c : Nat, c ≤ 64 ∧ Lib.ctz 64 W = c ∧ (W ≠ 0 → 64 * k + c < l.length → ((k : Int) * 64 + (c : Int)) = first l i s) ∧ ((W = 0 ∨ l.length ≤ 64 * k + c) → ∀ j, i ≤ j → j < 64 * (k + 1) → j < l.length → l.getD j false ≠ s)) := by
          intro W hS
          refine ⟨Lib.ctz 64 W, ?_, rfl, fun h0 hq => ?_, fun hq => hS.next HA.out hq⟩
          · by_cases h0 : W = 0
            · subst h0; decide
            · exact Nat.le_of_lt (ctz_bit W h0 hS.lt).1
          · rw [← first_eq (hS.found HA.out h0 hq)]; omega
        cases s
        · by_cases hki : k = i / 64
          · have e1 : ((k : Int) == (i : Int) / 64) = true := by rw [beq_iff_eq]; omega
            obtain ⟨W, eW, hS⟩ := sel_mask l i k false _ HBn.out hki
            have hWl := hS.lt
            obtain ⟨c, hc64, hcz, hfound, hnext⟩ := HE.out W hS
            have Hcz := Lib.hid hcz
            have Hf := Lib.hid hfound
            have Hn := Lib.hid hnext
            have Hki := Lib.hid hki
            clear hki hcz hfound hnext hS
            go_wp2_with fail
            refine (tz_calls W _ hWl HT.out).mono ?_
            rw [Hcz.out]
            rintro e w' ⟨rfl, rfl⟩
            by_cases hW0 : W = 0
            · have e2 : ((W : Int) != 0) = false := by simp [hW0]
              have HW0 := Lib.hid hW0
              clear hW0
              go_wp2_with fail
              go_round
              case rel => exact ⟨k + 1, by omega, by omega, by go_num, Hn.out (.inl HW0.out)⟩
              case measure => simp [intOf]; omega
            · have e2 : ((W : Int) != 0) = true := by simp [hW0]
              by_cases hat : (k : Int) * 64 + (c : Int) < (l.length : Int)
              · have HF := Lib.hid (Hf.out hW0 (by omega))
                clear hW0
                go_wp2_with fail
                go_ret
                exact ⟨ret_int HF.out, rfl⟩
              · have hat' : (l.length : Int) ≤ (k : Int) * 64 + (c : Int) := by omega
                clear hW0
                go_wp2_with fail
                go_round
                case rel => exact ⟨k + 1, by omega, by omega, by go_num, Hn.out (.inr (by omega))⟩
                case measure => simp [intOf]; omega
          · have e1 : ((k : Int) == (i : Int) / 64) = false := by rw [beq_eq_false_iff_ne]; omega
            obtain ⟨W, eW, hS⟩ := sel_all l i k false _ (R_bits _ _ _) HBn.out (by omega)
            have hWl := hS.lt
            obtain ⟨c, hc64, hcz, hfound, hnext⟩ := HE.out W hS
            have Hcz := Lib.hid hcz
            have Hf := Lib.hid hfound
            have Hn := Lib.hid hnext
            have Hki := Lib.hid hki
            clear hki hcz hfound hnext hS
            go_wp2_with fail
            refine (tz_calls W _ hWl HT.out).mono ?_
            rw [Hcz.out]
            rintro e w' ⟨rfl, rfl⟩
            by_cases hW0 : W = 0
            · have e2 : ((W : Int) != 0) = false := by simp [hW0]
              have HW0 := Lib.hid hW0
              clear hW0
              go_wp2_with fail
              go_round
              case rel => exact ⟨k + 1, by omega, by omega, by go_num, Hn.out (.inl HW0.out)⟩
              case measure => simp [intOf]; omega
            · have e2 : ((W : Int) != 0) = true := by simp [hW0]
              by_cases hat : (k : Int) * 64 + (c : Int) < (l.length : Int)
              · have HF := Lib.hid (Hf.out hW0 (by omega))
                clear hW0
                go_wp2_with fail
                go_ret
                exact ⟨ret_int HF.out, rfl⟩
              · have hat' : (l.length : Int) ≤ (k : Int) * 64 + (c : Int) := by omega
                clear hW0
                go_wp2_with fail
                go_round
                case rel => exact ⟨k + 1, by omega, by omega, by go_num, Hn.out (.inr (by omega))⟩
                case measure => simp [intOf]; omega
        · by_cases hki : k = i / 64
          · have e1 : ((k : Int) == (i : Int) / 64) = true := by rw [beq_iff_eq]; omega
            obtain ⟨W, eW, hS⟩ := sel_mask l i k true x (fun j hj => by rw [HBx.out j hj]; simp) hki
            have hWl := hS.lt
            obtain ⟨c, hc64, hcz, hfound, hnext⟩ := HE.out W hS
            have Hcz := Lib.hid hcz
            have Hf := Lib.hid hfound
            have Hn := Lib.hid hnext
            have Hki := Lib.hid hki
            clear hki hcz hfound hnext hS
            go_wp2_with fail
            refine (tz_calls W _ hWl HT.out).mono ?_
            rw [Hcz.out]
            rintro e w' ⟨rfl, rfl⟩
            by_cases hW0 : W = 0
            · have e2 : ((W : Int) != 0) = false := by simp [hW0]
              have HW0 := Lib.hid hW0
              clear hW0
              go_wp2_with fail
              go_round
              case rel => exact ⟨k + 1, by omega, by omega, by go_num, Hn.out (.inl HW0.out)⟩
              case measure => simp [intOf]; omega
            · have e2 : ((W : Int) != 0) = true := by simp [hW0]
              by_cases hat : (k : Int) * 64 + (c : Int) < (l.length : Int)
              · have HF := Lib.hid (Hf.out hW0 (by omega))
                clear hW0
                go_wp2_with fail
                go_ret
                exact ⟨ret_int HF.out, rfl⟩
              · have hat' : (l.length : Int) ≤ (k : Int) * 64 + (c : Int) := by omega
                clear hW0
                go_wp2_with fail
                go_round
                case rel => exact ⟨k + 1, by omega, by omega, by go_num, Hn.out (.inr (by omega))⟩
                case measure => simp [intOf]; omega
          · have e1 : ((k : Int) == (i : Int) / 64) = false := by rw [beq_eq_false_iff_ne]; omega
            obtain ⟨W, eW, hS⟩ := sel_all l i k true x HRx.out (fun j hj => by rw [HBx.out j hj]; simp) (by omega)
            have hWl := hS.lt
            obtain ⟨c, hc64, hcz, hfound, hnext⟩ := HE.out W hS
            have Hcz := Lib.hid hcz
            have Hf := Lib.hid hfound
            have Hn := Lib.hid hnext
            have Hki := Lib.hid hki
            clear hki hcz hfound hnext hS
            go_wp2_with fail
            refine (tz_calls W _ hWl HT.out).mono ?_
            rw [Hcz.out]
            rintro e w' ⟨rfl, rfl⟩
            by_cases hW0 : W = 0
            · have e2 : ((W : Int) != 0) = false := by simp [hW0]
              have HW0 := Lib.hid hW0
              clear hW0
              go_wp2_with fail
              go_round
              case rel => exact ⟨k + 1, by omega, by omega, by go_num, Hn.out (.inl HW0.out)⟩
              case measure => simp [intOf]; omega
            · have e2 : ((W : Int) != 0) = true := by simp [hW0]
              by_cases hat : (k : Int) * 64 + (c : Int) < (l.length : Int)
              · have HF := Lib.hid (Hf.out hW0 (by omega))
                clear hW0
                go_wp2_with fail
                go_ret
                exact ⟨ret_int HF.out, rfl⟩
              · have hat' : (l.length : Int) ≤ (k : Int) * 64 + (c : Int) := by omega
                clear hW0
                go_wp2_with fail
                go_round
                case rel => exact ⟨k + 1, by omega, by omega, by go_num, Hn.out (.inr (by omega))⟩
                case measure => simp [intOf]; omega
      · have hmk : m ≤ k := by omega
        go_wp2_with fail
        go_ret
        refine ⟨ret_int ?_, rfl⟩
        refine first_eq (.inl ⟨rfl, fun j hj1 hj2 => HA.out j hj1 ?_ hj2⟩)
        have : nwords l.length ≤ k := by rw [Hm.out]; exact hmk
        unfold nwords at this
        omega
end Go.Proofs.YtknieebmcpgppaaDoor.Bit
