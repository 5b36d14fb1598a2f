/- The contract of package bits' Nth. -/
import Derived.Test.YtknieebmcpgppaaDoorBitS
namespace Go.Proofs.YtknieebmcpgppaaDoor.Bit
open Go.RowKit Go.Proofs.YtknieebmcpgppaaDoor.Aid
theorem cnt_mono (f : Nat → Bool) (a : Nat) : ∀ d, cnt f a ≤ cnt f (a + d)
  | 0 => Nat.le_refl _
  | d + 1 => by rw [← Nat.add_assoc, cnt]; have := cnt_mono f a d; omega
theorem cnt_ivt (f : Nat → Bool) (q : Nat) : ∀ n, q < cnt f n → ∃ j, j < n ∧ f j = true ∧ cnt f j = q
  | 0, h => by simp [cnt] at h
  | n + 1, h => by
    by_cases hq : q < cnt f n
    · obtain ⟨j, h1, h2, h3⟩ := cnt_ivt f q n hq
      exact ⟨j, by omega, h2, h3⟩
    · unfold cnt at h
      by_cases hf : f n = true
      · rw [if_pos hf] at h
        exact ⟨n, by omega, hf, by omega⟩
      · rw [if_neg hf] at h
        omega
/-- The bits of x from the q-th set one on. -/
structure From (x q W : Nat) : Prop where
  lt : W < 18446744073709551616
  bit : ∀ j, j < 64 → W.testBit j = (x.testBit j && decide (q ≤ cnt x.testBit j))
theorem From.ne {x q W : Nat} (h : From x q W) (hq : q < cnt x.testBit 64) : W ≠ 0 := by
  obtain ⟨j, h1, h2, h3⟩ := cnt_ivt _ q 64 hq
  rintro rfl
  have := h.bit j h1
  rw [h2, h3] at this
  simp at this
theorem From.at_ {x q W : Nat} (h : From x q W) (h0 : W ≠ 0) : x.testBit (Lib.ctz 64 W) = true ∧ cnt x.testBit (Lib.ctz 64 W) = q ∧ Lib.ctz 64 W < 64 := by
  obtain ⟨h1, h2, h3⟩ := ctz_bit W h0 h.lt
  generalize Lib.ctz 64 W = c at *
  have hb := h.bit c h1
  rw [h2] at hb
  have hb := hb.symm
  rw [Bool.and_eq_true, decide_eq_true_eq] at hb
  refine ⟨hb.1, ?_, h1⟩
  rcases Nat.lt_or_ge q (cnt x.testBit c) with hlt | hge
  · obtain ⟨j, g1, g2, g3⟩ := cnt_ivt _ q c hlt
    have := h.bit j (by omega)
    rw [h3 j g1, g2, g3] at this
    simp at this
  · omega
theorem drop_low (W c a : Nat) (hW : W = 2 ^ c * (2 * a + 1)) (j : Nat) : (W &&& (W - 1)).testBit j = if j < c + 1 then false else W.testBit j := by
  have hp : 0 < 2 ^ c := Nat.two_pow_pos c
  have e1 : W = 2 ^ (c + 1) * a + 2 ^ c := by rw [hW, Nat.pow_succ, Nat.mul_add, Nat.mul_one, Nat.mul_assoc]
  have e2 : W - 1 = 2 ^ (c + 1) * a + (2 ^ c - 1) := by omega
  have hlt : 2 ^ c < 2 ^ (c + 1) := by rw [Nat.pow_succ]; omega
  rw [Nat.testBit_and, e2, e1, Nat.testBit_two_pow_mul_add _ hlt, Nat.testBit_two_pow_mul_add _ (by omega)]
  by_cases hj : j < c + 1
  · rw [if_pos hj, if_pos hj, if_pos hj, Nat.testBit_two_pow, Nat.testBit_two_pow_sub_one]
    by_cases hjc : c = j
    · subst hjc; simp
    · simp [hjc]
  · rw [if_neg hj, if_neg hj, if_neg hj]; simp
theorem From.step {x q W : Nat} (h : From x q W) (hq : q < cnt x.testBit 64) : From x (q + 1) (W &&& (W - 1)) := by
  have h0 := h.ne hq
  obtain ⟨g1, g2, g3⟩ := h.at_ h0
  obtain ⟨a, ha, _⟩ := Lib.ctzFrom_spec 64 W (by omega) h.lt
  have e : Lib.ctz 64 W = Lib.ctzFrom 64 W := by unfold Lib.ctz; rw [if_neg h0]
  rw [← e] at ha
  generalize Lib.ctz 64 W = c at *
  refine ⟨by have := Nat.and_le_left (n := W) (m := W - 1); have := h.lt; omega, fun j hj => ?_⟩
  rw [drop_low W c a ha j]
  by_cases hjc : j < c + 1
  · rw [if_pos hjc]
    have hm := cnt_mono x.testBit j (c - j)
    rw [show j + (c - j) = c by omega, g2] at hm
    have : decide (q + 1 ≤ cnt x.testBit j) = false := by simp; omega
    rw [this, Bool.and_false]
  · rw [if_neg hjc, h.bit j hj]
    have hm := cnt_mono x.testBit (c + 1) (j - (c + 1))
    rw [show c + 1 + (j - (c + 1)) = j by omega] at hm
    have hc1 : cnt x.testBit (c + 1) = q + 1 := by rw [cnt, g2, g1]; rfl
    have d1 : decide (q ≤ cnt x.testBit j) = true := by simp; omega
    have d2 : decide (q + 1 ≤ cnt x.testBit j) = true := by simp; omega
    rw [d1, d2]
theorem From.zero (x : Nat) (h : x < 18446744073709551616) : From x 0 x := ⟨h, fun j _ => by simp⟩
theorem bitsTo_cnt (l : List Bool) : ∀ n, (bitsTo l n).length = cntTo l n
  | 0 => rfl
  | n + 1 => by
    rw [bitsTo_succ, List.length_append, bitsTo_cnt l n]
    unfold cntTo
    rw [cnt]
    split <;> simp
theorem bitsTo_prefix (l : List Bool) (n : Nat) : ∀ d, ∃ t, bitsTo l (n + d) = bitsTo l n ++ t
  | 0 => ⟨[], by simp⟩
  | d + 1 => by
    obtain ⟨t, ht⟩ := bitsTo_prefix l n d
    rw [← Nat.add_assoc, bitsTo_succ, ht]
    exact ⟨t ++ _, by rw [List.append_assoc]⟩
/-- The n-th set bit. -/
def nthL (l : List Bool) (n : Int) : Int := if 0 ≤ n ∧ n < (listL l).length then (listL l).getD n.toNat 0 else -1
theorem nth_found (l : List Bool) (n k : Nat) (hk : k < l.length) (hb : l.getD k false = true) (hc : cntTo l k = n) : nthL l (n : Int) = (k : Int) := by
  have h1 := bitsTo_succ l k
  rw [if_pos hb] at h1
  obtain ⟨t, ht⟩ := bitsTo_prefix l (k + 1) (l.length - (k + 1))
  rw [show k + 1 + (l.length - (k + 1)) = l.length by omega, h1] at ht
  have hlen := bitsTo_cnt l k
  rw [hc] at hlen
  have e : listL l = bitsTo l k ++ [(k : Int)] ++ t := ht
  unfold nthL
  rw [if_pos (by rw [e]; simp; omega), Int.toNat_natCast, e, List.getD_eq_getElem?_getD, List.append_assoc, List.getElem?_append_right (by omega), hlen]
  simp
theorem nth_none (l : List Bool) (n : Int) (h : n < 0 ∨ (cntL l : Int) ≤ n) : nthL l n = -1 := by
  unfold nthL
  rw [if_neg]
  have : (listL l).length = cntL l := bitsTo_cnt l l.length
  rw [this]
  omega
theorem sub_one (W : Nat) (h0 : W ≠ 0) (h : W < 18446744073709551616) : Go.bits .and .u64 (W : Int) ((W : Int) - 1) = ((W &&& (W - 1) : Nat) : Int) := by
  rw [show ((W : Int) - 1) = ((W - 1 : Nat) : Int) by omega, u64_and_nat _ _ h]
set_option maxHeartbeats 2000000 in
theorem nth_calls (w : World) (p g c : Nat) (l : List Bool) (n : Int) (h : RowAt w p g c l) (hT : Tab w) (hn2 : n ≤ 9223372036854775807) :
    Calls Tryd.prog 22 #[.pointer (some ⟨p, 0, none⟩), .int .i64 n] w fun e w' => e = .returned (.int .i64 (nthL l n)) ∧ w = w' := by
  by_cases hn : n < 0
  · rw [nth_none l n (.inl hn)]
    clear h hT
    go_enter Tryd.func22, Tryd.ntmps22
    go_wp2_with fail
    go_ret
    exact ⟨rfl, rfl⟩
  · obtain ⟨n, rfl⟩ := Int.eq_ofNat_of_zero_le (show 0 ≤ n by omega)
    obtain ⟨c0, c1⟩ := h.facts
    have H := Lib.hid h
    have HT := Lib.hid hT
    have hs := h.small
    have hm64 : nwords l.length ≤ 64 := by unfold nwords; omega
    have HC := Lib.hid (cnt_words l)
    clear h hT hn
    generalize hm : nwords l.length = m at c1 hm64 HC
    have Hm := Lib.hid hm
    clear hm
    have hn0 : (0 : Int) ≤ (n : Int) := by omega
    go_enter Tryd.func22, Tryd.ntmps22
    go_wp2_with fail
    go_loop [1, 15] (fun s1 s15 => ∃ k r : Nat, k ≤ m ∧ s15 = .int .i64 k ∧ s1 = .int .i64 r ∧ cntTo l (64 * k) + r = n ∧ r ≤ n) (fun _ s15 => m - (intOf s15).toNat)
    case atStart => exact ⟨0, n, by omega, rfl, rfl, by simp [cntTo, cnt], Nat.le_refl _⟩
    case round =>
      obtain ⟨k, r, hk, rfl, rfl, hkr, hrn⟩ := hrel
      have HKR := Lib.hid hkr
      clear hkr
      by_cases hlt : k < m
      · have hc := H.out.word (k := k) (by rw [Hm.out]; exact hlt)
        unfold Bit.word at hc
        have hw := wordN_lt l k
        have HW := Lib.hid (cnt_word l k)
        have HBit := Lib.hid (fun j hj => wordN_bit l k j hj)
        have b2 := cnt_le (wordN l k).testBit 64
        generalize wordN l k = x at hc hw HW b2 HBit
        have hk0 : (0 : Int) ≤ (k : Int) := by omega
        have hr0 : (0 : Int) ≤ (r : Int) := by omega
        go_wp2_with fail
        refine (ones_calls x _ hw).mono ?_
        rintro e w' ⟨rfl, rfl⟩
        by_cases hrt : cnt x.testBit 64 ≤ r
        · generalize cnt x.testBit 64 = t at HW b2 hrt ⊢
          have hrt' : (t : Int) ≤ (r : Int) := by omega
          go_wp2_with fail
          go_round
          case rel => exact ⟨k + 1, r - t, by omega, by go_num, by go_num, by rw [HW.out]; have := HKR.out; omega, by omega⟩
          case measure => simp [intOf]; omega
        · have hrt' : r < cnt x.testBit 64 := by omega
          have HRT := Lib.hid hrt'
          have hrt2 : (r : Int) < ((cnt x.testBit 64 : Nat) : Int) := by omega
          clear hrt hrt'
          generalize ht : cnt x.testBit 64 = t at b2 hrt2 HW ⊢
          have Ht := Lib.hid ht
          clear ht
          go_wp2_with fail
          go_loop [6, 29] (fun s6 s29 => ∃ q W : Nat, q ≤ r ∧ s29 = .int .i64 q ∧ s6 = .int .u64 W ∧ From x q W) (fun _ s29 => r - (intOf s29).toNat)
          case atStart => exact ⟨0, x, by omega, rfl, rfl, From.zero x hw⟩
          case round =>
            obtain ⟨q, W, hq, rfl, rfl, hF⟩ := hrel
            have HF := Lib.hid hF
            have hWl := hF.lt
            have hW0 := hF.ne (by have := HRT.out; omega)
            clear hF
            by_cases hqr : q < r
            · have HS := Lib.hid (HF.out.step (by have := HRT.out; omega))
              have hsub := sub_one W hW0 hWl
              have HSub := Lib.hid hsub
              have hW1 : (1 : Int) ≤ (W : Int) := by omega
              have hq0 : (0 : Int) ≤ (q : Int) := by omega
              have hWl' : (W : Int) < 18446744073709551616 := by omega
              clear hsub hW0
              go_wp2_with fail
              go_round
              case rel => exact ⟨q + 1, W &&& (W - 1), by omega, by go_num, by first | rw [HSub.out] | (rw [show IntKind.u64.wrap ((W : Int) - 1) = (W : Int) - 1 by rw [u64_wrap]; omega, HSub.out]), HS.out⟩
              case measure => simp [intOf]; omega
            · obtain rfl : q = r := by omega
              obtain ⟨f1, f2, f3⟩ := HF.out.at_ hW0
              have F1 := Lib.hid f1
              have F2 := Lib.hid f2
              clear f1 f2 hW0
              go_wp2_with fail
              refine (tz_calls W _ hWl HT.out).mono ?_
              rintro e w' ⟨rfl, rfl⟩
              generalize Lib.ctz 64 W = cz at f3 F1 F2
              have hb := HBit.out cz f3
              rw [F1.out] at hb
              have hlen : 64 * k + cz < l.length := by
                rcases Nat.lt_or_ge (64 * k + cz) l.length with h | h
                · exact h
                · rw [List.getD_eq_getElem?_getD, List.getElem?_eq_none h] at hb; cases hb
              have hcn : cntTo l (64 * k + cz) = n := by
                unfold cntTo
                rw [cnt_add, cnt_congr (g := x.testBit) cz (fun j hj => (HBit.out j (by omega)).symm), F2.out]
                exact HKR.out
              have HFin := Lib.hid (nth_found l n (64 * k + cz) hlen hb.symm hcn)
              clear hb hlen hcn
              go_wp2_with fail
              go_ret
              exact ⟨ret_int (by rw [HFin.out]; omega), rfl⟩
      · obtain rfl : k = m := by omega
        go_wp2_with fail
        go_ret
        refine ⟨ret_int ?_, rfl⟩
        rw [nth_none l n (.inr (by rw [← HC.out]; have := HKR.out; omega))]
end Go.Proofs.YtknieebmcpgppaaDoor.Bit
