/- The walk of LedgerBounds: it returns true. -/
import Derived.Test.YtchnhmcedmicgaaLedW
import Derived.Test.YtchnhmcedmicgaaAidQuad
namespace Go.Proofs.Ytchnhmcedmicgaa.Led
open Go.RowKit Go.Proofs.Ytchnhmcedmicgaa.Aid
theorem heldV_nat (r : List Int) (k : Nat) (hk : k < 8) : heldV r (k : Int) = r.getD k 0 := by
  unfold heldV
  rw [if_pos (by omega), Int.toNat_natCast]
  rfl
set_option maxRecDepth 10000 in
set_option maxHeartbeats 4000000 in
theorem bounds_yes (w : World) (cap : Int) (A : Option Addr) (ca : Nat) (xs : List Q4) (hx : Quads w A xs) (h0 : 0 ≤ cap) (h1 : cap ≤ 1099511627776) (hl : ¬ 200 < (xs.length : Int)) :
    Calls Try.prog 4 #[.int .i64 cap, .slice A xs.length ca] w fun e w' => e = .returned (.bool true) ∧ Below w.heap.size w w' := by
  have HX := Lib.hid hx
  clear hx
  go_enter Try.func4, Try.ntmps4
  go_wp2_with fail
  refine (alive_calls w).mono ?_
  rintro e w1 ⟨rfl, hb1⟩
  go_wp2_with fail
  refine (new_yes w1 cap h0 h1).mono ?_
  rintro e w2 ⟨p, mb, rfl, hL, hp, hm, hb2⟩
  have hb := below_then hb1 hb2
  have hz := hb1.size
  have HM := Lib.hid (show ∀ x ∈ [p, mb], w.heap.size ≤ x by simp; omega)
  have HL := Lib.hid hL
  have HB := Lib.hid hb
  clear hL hb hb1 hb2 hz hp hm
  go_wp2_with fail
  go_loopw [7] (fun i wr => ∃ (j : Nat) (s : Run), j ≤ xs.length ∧ i = .int .i64 j ∧ LedAt wr p mb cap s ∧ s.hist.length ≤ j + 1 ∧ Below w.heap.size w wr) (fun i _ => xs.length - (intOf i).toNat)
  case atStart => exact ⟨0, run0, by omega, rfl, HL.out, by decide, HB.out⟩
  case round =>
    obtain ⟨j, s, hj, rfl, hL, hs, hB⟩ := hrel
    by_cases hlt : j < xs.length
    · have HLr := Lib.hid hL
      have HBr := Lib.hid hB
      obtain ⟨b, o, rfl, ht⟩ := HX.out j hlt
      have htr := ht.below (w' := wr) (HBr.out.mono ((Nat.le_refl _)))
      clear ht hL hB
      generalize xs.getD j q40 = x at htr
      obtain ⟨wa, wb, wc, wd⟩ := x
      obtain ⟨hlb, c0, c1, c2, c3⟩ := htr
      have hj0 : (0 : Int) ≤ (j : Int) := by omega
      have hj1 : (j : Int) < (xs.length : Int) := by omega
      have HD := Lib.hid (do_calls wr p mb cap s wa wb wc wd HLr.out (by omega))
      have Hs := Lib.hid hs
      go_wp2_with fail
      refine HD.out.mono ?_
      rintro e w3 hg
      obtain ⟨rfl, hL3, hk3⟩ := hg
      have hs3 : (stepR cap s wa wb wc wd).hist.length ≤ j + 2 := Nat.le_trans (step_len _ _ _ _ _ _) (by omega)
      have HL3 := Lib.hid hL3
      have HB3 := Lib.hid (below_kept HBr.out hk3 HBr.out.size HM.out)
      have Hs3 := Lib.hid hs3
      clear hL3 hk3 hs3 c0 c1 c2 c3 hlb HD hs Hs HLr HBr
      generalize stepR cap s wa wb wc wd = s3 at HL3 Hs3
      have hcap := HL3.out.cap0
      have hrow := HL3.out.ok.row
      have hle := hrow.le
      have hpos := hrow.pos
      have hsum0 := sumTo_pos hpos 8
      have HS := Lib.hid (fun k (hk : k ≤ 8) => And.intro (sumTo_pos hpos k) (Int.le_trans (sumTo_le hpos hk) hle))
      have HP := Lib.hid hpos
      have hpk := peakOf_bound hcap.1 s3.hist HL3.out.ok.ok
      have hpg : sumTo s3.row 8 ≤ peakOf s3.hist := peakOf_ge (by obtain ⟨hs, e⟩ := HL3.out.ok.ne; rw [e]; simp)
      have HC := Lib.hid (And.intro hcap (And.intro hle (And.intro hsum0 (And.intro hpk hpg))))
      clear hrow hpos hle hcap hsum0 hpk hpg
      go_wp2_with fail
      go_loop [8, 9] (fun n k => ∃ q : Nat, q ≤ 8 ∧ k = .int .i64 q ∧ n = .int .i64 (sumTo s3.row q)) (fun _ k => 8 - (intOf k).toNat)
      case atStart => exact ⟨0, by omega, rfl, rfl⟩
      case round =>
        obtain ⟨q, hq, rfl, rfl⟩ := hrel
        have hq0 : (0 : Int) ≤ (q : Int) := by omega
        by_cases hq8 : q < 8
        · have T := held_calls w3 p mb cap s3 q HL3.out
          rw [heldV_nat s3.row q hq8] at T
          have hx0 := HP.out q
          obtain ⟨b0, b1⟩ := HS.out q (by omega)
          have b2 := HS.out (q + 1) (by omega)
          have hss : sumTo s3.row (q + 1) = sumTo s3.row q + s3.row.getD q 0 := rfl
          rw [hss] at b2
          have HSS := Lib.hid hss
          clear hss
          generalize s3.row.getD q 0 = y at T hx0 b2 HSS
          generalize sumTo s3.row q = sq at b0 b1 b2 HSS ⊢
          obtain ⟨b2, b3⟩ := b2
          have hw : IntKind.i64.wrap (sq + y) = sq + y := IntWalk.i64_in _ (by have := HC.out; omega)
          have HT := Lib.hid T
          have hq1 : (q : Int) < 8 := by omega
          have hy : ¬ y < 0 := by omega
          clear T
          go_wp2_with fail
          refine HT.out.mono ?_
          rintro e w4 ⟨rfl, rfl⟩
          go_wp2_with fail
          refine HT.out.mono ?_
          rintro e w4 ⟨rfl, rfl⟩
          go_wp2_with fail
          go_round
          case rel => exact ⟨q + 1, by omega, by go_num, by rw [HSS.out]⟩
          case measure => simp [intOf]; omega
        · obtain rfl : q = 8 := by omega
          obtain ⟨⟨g0, g1⟩, g2, g3, ⟨g4, g5⟩, g6⟩ := HC.out
          have HT := Lib.hid (fun w => total_calls w p mb cap s3)
          have HF := Lib.hid (fun w => left_calls w p mb cap s3)
          have HPk := Lib.hid (fun w => peak_calls w p mb cap s3)
          generalize sumTo s3.row 8 = t at g2 g3 g6 HT HF ⊢
          generalize peakOf s3.hist = pk at g4 g5 g6 HPk
          have e1 : (t != t) = false := by simp
          have e2 : ¬ cap - t < 0 := by omega
          have e3 : IntKind.i64.wrap (t + (cap - t)) = cap := by rw [IntWalk.i64_in _ (by omega)]; omega
          have e4 : (cap != cap) = false := by simp
          have e5 : ¬ pk < t := by omega
          have e6 : ¬ cap < pk := by omega
          clear g0 g1 g2 g3 g4 g5 g6 HC
          go_wp2_with fail
          refine (HT.out w3 HL3.out).mono ?_
          rintro e w5 ⟨rfl, hb5⟩
          have HL5 := Lib.hid (HL3.out.below hb5)
          have HB5 := Lib.hid (below_then HB3.out hb5)
          clear hb5
          go_wp2_with fail
          refine (HF.out w5 HL5.out).mono ?_
          rintro e w6 ⟨rfl, hb6⟩
          have HL6 := Lib.hid (HL5.out.below hb6)
          have HB6 := Lib.hid (below_then HB5.out hb6)
          clear hb6
          go_wp2_with fail
          refine (HT.out w6 HL6.out).mono ?_
          rintro e w7 ⟨rfl, hb7⟩
          have HL7 := Lib.hid (HL6.out.below hb7)
          have HB7 := Lib.hid (below_then HB6.out hb7)
          clear hb7
          go_wp2_with fail
          refine (HF.out w7 HL7.out).mono ?_
          rintro e w8 ⟨rfl, hb8⟩
          have HL8 := Lib.hid (HL7.out.below hb8)
          have HB8 := Lib.hid (below_then HB7.out hb8)
          clear hb8
          go_wp2_with fail
          refine (HPk.out w8 HL8.out).mono ?_
          rintro e w9 ⟨rfl, rfl⟩
          go_wp2_with fail
          refine (HPk.out w8 HL8.out).mono ?_
          rintro e w9 ⟨rfl, rfl⟩
          go_wp2_with fail
          go_roundw
          case rel => exact ⟨j + 1, s3, by omega, by go_num, HL8.out, Hs3.out, HB8.out⟩
          case measure => simp [intOf]; omega
    · obtain rfl : j = xs.length := by omega
      go_wp2_with fail
      go_ret
      exact ⟨rfl, hB⟩
theorem bounds_walk (cap : Int) (xs : List Q4) (A : Option Addr) (ca : Nat) {w : World} (hx : Quads w A xs) (_ : xs.length ≤ maxLen) :
    Calls Try.prog 4 #[.int .i64 cap, .slice A xs.length ca] w fun e w' => e = .returned (.bool true) ∧ Below w.heap.size w w' := by
  by_cases hl : 200 < (xs.length : Int)
  · clear hx
    go_enter Try.func4, Try.ntmps4
    go_wp2_with fail
    refine (alive_calls w).mono ?_
    rintro e w1 ⟨rfl, hb1⟩
    go_wp2_with fail
    go_ret
    exact ⟨rfl, hb1⟩
  · by_cases h0 : 0 ≤ cap
    · by_cases h1 : cap ≤ 1099511627776
      · exact bounds_yes w cap A ca xs hx h0 h1 hl
      · have h1' : 1099511627776 < cap := by omega
        clear hx h1
        go_enter Try.func4, Try.ntmps4
        go_wp2_with fail
        refine (alive_calls w).mono ?_
        rintro e w1 ⟨rfl, hb1⟩
        go_wp2_with fail
        refine (new_no w1 cap (.inr h1')).mono ?_
        rintro e w2 ⟨rfl, rfl⟩
        go_wp2_with fail
        go_ret
        exact ⟨rfl, hb1⟩
    · have h0' : cap < 0 := by omega
      clear hx h0
      go_enter Try.func4, Try.ntmps4
      go_wp2_with fail
      refine (alive_calls w).mono ?_
      rintro e w1 ⟨rfl, hb1⟩
      go_wp2_with fail
      refine (new_no w1 cap (.inl h0')).mono ?_
      rintro e w2 ⟨rfl, rfl⟩
      go_wp2_with fail
      go_ret
      exact ⟨rfl, hb1⟩
end Go.Proofs.Ytchnhmcedmicgaa.Led
