/- The walk of LedgerBack: it returns true. -/
import Derived.Test.YtchnhmcedmicgaaLedX
namespace Go.Proofs.Ytchnhmcedmicgaa.Led
open Go.RowKit Go.Proofs.Ytchnhmcedmicgaa.Aid
theorem reserve_none {cap : Int} {r : List Int} {k n : Int} (h : (stepL cap r 0 k 0 n).1 ≠ 0) : (stepL cap r 0 k 0 n).2 = none := by
  unfold stepL at h ⊢
  rw [if_pos rfl] at h ⊢
  by_cases hr : right k n = true
  · rw [if_pos hr] at h ⊢
    by_cases hn : cap - sumTo r 8 < n
    · rw [if_pos hn]
    · rw [if_neg hn] at h
      exact absurd rfl h
  · rw [if_neg hr]
theorem reserve_some {cap : Int} {r : List Int} {k n : Int} (h : (stepL cap r 0 k 0 n).1 = 0) : ∃ j : Nat, k = j ∧ j < 8 ∧ 0 ≤ n ∧ sumTo r 8 + n ≤ cap ∧ stepL cap r 0 k 0 n = (0, some (add r j n)) := by
  unfold stepL at h ⊢
  rw [if_pos rfl] at h ⊢
  split at h
  · rename_i hr
    obtain ⟨h0, h1, h2⟩ := right_true hr
    split at h
    · cases h
    · rename_i hn
      refine ⟨k.toNat, by omega, by omega, h2, by omega, ?_⟩
      rw [if_pos hr, if_neg hn]
  · cases h
theorem add_back (r : List Int) (k : Nat) (n : Int) (hl : r.length = 8) (hk : k < 8) : add (add r k n) k (-n) = r := by
  apply List.ext_getElem (by rw [add_len, add_len])
  intro j h1 h2
  have := add_get (add r k n) k j (-n) (by rw [add_len]; exact hl) hk
  rw [add_get r k j n hl hk] at this
  simp only [List.getD_eq_getElem?_getD, List.getElem?_eq_getElem h1, List.getElem?_eq_getElem h2, Option.getD_some] at this
  rw [this]
  split <;> omega
theorem add_same (r : List Int) (k : Nat) (n : Int) (hl : r.length = 8) (hk : k < 8) : add r k n = r ↔ n = 0 := by
  constructor
  · intro h
    have := add_get r k k n hl hk
    rw [h, if_pos rfl] at this
    omega
  · rintro rfl
    have := add_back r k 0 hl hk
    have h2 : add (add r k 0) k 0 = add r k 0 := by
      apply List.ext_getElem (by rw [add_len])
      intro j h1 h2
      have := add_get (add r k 0) k j 0 (by rw [add_len]; exact hl) hk
      simp only [List.getD_eq_getElem?_getD, List.getElem?_eq_getElem h1, List.getElem?_eq_getElem h2, Option.getD_some] at this
      rw [this]
      split <;> omega
    rw [show (-0 : Int) = 0 from rfl] at this
    rw [h2] at this
    exact this
theorem release_back {cap : Int} {r : List Int} (h : OkR cap r) (k : Nat) (n : Int) (hk : k < 8) (h0 : 0 ≤ n) : stepL cap (add r k n) 1 (k : Int) 0 n = (0, some r) := by
  unfold stepL
  rw [if_neg (by decide), if_pos rfl, if_pos (by unfold right; simp; omega), Int.toNat_natCast, add_get r k k n h.len hk, if_pos rfl, if_neg (by have := h.pos k; omega), add_back r k n h.len hk]
set_option maxRecDepth 10000 in
set_option maxHeartbeats 8000000 in
theorem back_yes (w : World) (cap : Int) (A : Option Addr) (ca : Nat) (xs : List Q4) (k n : Int) (hx : Quads w A xs) (h0 : 0 ≤ cap) (h1 : cap ≤ 1099511627776) (hl : ¬ 200 < (xs.length : Int)) :
    Calls Try.prog 8 #[.int .i64 cap, .slice A xs.length ca, .int .i64 k, .int .i64 n] w fun e w' => e = .returned (.bool true) ∧ Below w.heap.size w w' := by
  have HX := Lib.hid hx
  clear hx
  go_enter Try.func8, Try.ntmps8
  go_wp2_with fail
  refine (alive_calls w).mono ?_
  rintro e w1 ⟨rfl, hb1⟩
  go_wp2_with fail
  refine (new_yes w1 cap h0 h1).mono ?_
  rintro e w2 ⟨p, mb, rfl, hL, hp, hm, hb2⟩
  have hb := below_then hb1 hb2
  have hz := hb1.size
  have HM := Lib.hid (show ∀ x ∈ [p, mb], w.heap.size ≤ x by simp; omega)
  have HL := Lib.hid hL
  have HB := Lib.hid hb
  clear hL hb hb1 hb2 hz hp hm
  go_wp2_with fail
  go_loopw [11] (fun i wr => ∃ (j : Nat) (s : Run), j ≤ xs.length ∧ i = .int .i64 j ∧ LedAt wr p mb cap s ∧ s.hist.length ≤ j + 1 ∧ Below w.heap.size w wr) (fun i _ => xs.length - (intOf i).toNat)
  case atStart => exact ⟨0, run0, by omega, rfl, HL.out, by decide, HB.out⟩
  case round =>
    obtain ⟨j, s, hj, rfl, hL, hs, hB⟩ := hrel
    by_cases hlt : j < xs.length
    · have HLr := Lib.hid hL
      have HBr := Lib.hid hB
      obtain ⟨b, o, rfl, ht⟩ := HX.out j hlt
      have htr := ht.below (w' := wr) (HBr.out.mono ((Nat.le_refl _)))
      clear ht hL hB
      generalize xs.getD j q40 = x at htr
      obtain ⟨wa, wb, wc, wd⟩ := x
      obtain ⟨hlb, c0, c1, c2, c3⟩ := htr
      have hj0 : (0 : Int) ≤ (j : Int) := by omega
      have hj1 : (j : Int) < (xs.length : Int) := by omega
      have HD := Lib.hid (do_calls wr p mb cap s wa wb wc wd HLr.out (by omega))
      have Hs := Lib.hid hs
      go_wp2_with fail
      refine HD.out.mono ?_
      rintro e w3 hg
      obtain ⟨rfl, hL3, hk3⟩ := hg
      have hs3 : (stepR cap s wa wb wc wd).hist.length ≤ j + 2 := Nat.le_trans (step_len _ _ _ _ _ _) (by omega)
      have HL3 := Lib.hid hL3
      have HB3 := Lib.hid (below_kept HBr.out hk3 HBr.out.size HM.out)
      have Hs3 := Lib.hid hs3
      clear hL3 hk3 hs3 c0 c1 c2 c3 hlb HD hs Hs HLr HBr
      go_wp2_with fail
      go_roundw
      case rel => exact ⟨j + 1, _, by omega, by go_num, HL3.out, Hs3.out, HB3.out⟩
      case measure => simp [intOf]; omega
    · obtain rfl : j = xs.length := by omega
      have HLr := Lib.hid hL
      have HBr := Lib.hid hB
      have hrow := hL.ok.row
      have Hok := Lib.hid hL.ok
      have Hrow := Lib.hid hrow
      have Hwf := Lib.hid (hrow.wf h1)
      have Hs := Lib.hid (show s.hist.length ≤ 1000 by omega)
      clear hL hB hs hrow hlt hj HL HB
      go_wp2_with fail
      refine (all_calls wr p mb cap s HLr.out).mono ?_
      rintro e w3 ⟨rfl, hb3⟩
      have HL3 := Lib.hid (HLr.out.below hb3)
      have HB3 := Lib.hid (below_then HBr.out hb3)
      clear hb3 HLr HBr
      unfold rv
      go_wp2_with fail
      have hQ := box_row w3 s.row
      have hba := (Below.refl w3.heap.size w3).alloc (Nat.le_refl _) (.cells (rv s.row) 24)
      unfold rv at hba hQ
      have HL4 := Lib.hid (HL3.out.below hba)
      have HB4 := Lib.hid (below_then HB3.out hba)
      have HN := Lib.hid (show p ≠ w3.heap.size ∧ mb ≠ w3.heap.size ∧ w.heap.size ≤ w3.heap.size from by have := HL3.out.lt; have := HB3.out.size; omega)
      have HQ4 := Lib.hid (show Blk (w3.alloc (.cells #[.int .i64 (g8 s.row 0), .int .i64 (g8 s.row 1), .int .i64 (g8 s.row 2), .int .i64 (g8 s.row 3), .int .i64 (g8 s.row 4), .int .i64 (g8 s.row 5), .int .i64 (g8 s.row 6), .int .i64 (g8 s.row 7)] 24)) w3.heap.size (rv s.row) 24 from hQ)
      clear hQ hba HL3 HB3
      generalize w3.alloc (.cells #[.int .i64 (g8 s.row 0), .int .i64 (g8 s.row 1), .int .i64 (g8 s.row 2), .int .i64 (g8 s.row 3), .int .i64 (g8 s.row 4), .int .i64 (g8 s.row 5), .int .i64 (g8 s.row 6), .int .i64 (g8 s.row 7)] 24) = w4 at HL4 HB4 HQ4 ⊢
      generalize w3.heap.size = q at HQ4 HN ⊢
      refine (seen_calls w4 p mb cap s s.row Hwf.out HL4.out).mono ?_
      rintro e w5 ⟨rfl, hb5⟩
      have HL5 := Lib.hid (HL4.out.below hb5)
      have HQ5 := Lib.hid (HQ4.out.below hb5)
      have HB5 := Lib.hid (below_then HB4.out hb5)
      clear hb5 HL4 HB4 HQ4
      go_wp2_with fail
      refine (clone_calls w5 p mb cap s HL5.out).mono ?_
      rintro e w6 ⟨pc, mc, rfl, hC, hpc, hmc, hb6⟩
      have HC6 := Lib.hid hC
      have HL6 := Lib.hid (HL5.out.below hb6)
      have HQ6 := Lib.hid (HQ5.out.below hb6)
      have HB6 := Lib.hid (below_then HB5.out hb6)
      have HND := Lib.hid (show pc ≠ p ∧ pc ≠ mb ∧ mc ≠ p ∧ mc ≠ mb from by have := HL5.out.lt; omega)
      clear hC hpc hmc hb6 HL5 HB5 HQ5
      go_wp2_with fail
      refine (reserve_calls w6 p mb cap s k n HL6.out (by have := Hs.out; omega)).mono ?_
      rintro e w7 ⟨he, hL7, hk7⟩
      have HC7 := Lib.hid (HC6.out.kept hk7 (by have := HND.out; simp; omega) (by have := HND.out; simp; omega))
      have HQ7 := Lib.hid (HQ6.out.kept hk7 (by have := HN.out; simp; omega))
      have HB7 := Lib.hid (below_kept HB6.out hk7 HB6.out.size HM.out)
      clear hk7 HC6 HQ6 HB6 HL6
      by_cases hok : (stepL cap s.row 0 k 0 n).1 = 0
      · obtain ⟨k, rfl, hk8, hn0, hsum, hst⟩ := reserve_some hok
        have hst2 : stepR cap s 0 (k : Int) 0 n = ⟨add s.row k n, s.hist ++ [add s.row k n]⟩ := by unfold stepR; rw [hst]
        rw [hst] at he
        rw [hst2] at hL7
        have hrel := release_back Hrow.out k n hk8 hn0
        have hrel2 : stepR cap ⟨add s.row k n, s.hist ++ [add s.row k n]⟩ 1 (k : Int) 0 n = ⟨s.row, (s.hist ++ [add s.row k n]) ++ [s.row]⟩ := by unfold stepR; rw [hrel]
        have hpk : peakOf ((s.hist ++ [add s.row k n]) ++ [s.row]) = max (sumTo (add s.row k n) 8) (peakOf s.hist) := by
          rw [peakOf_snoc, peakOf_snoc]
          have : sumTo s.row 8 ≤ peakOf s.hist := peakOf_ge (by obtain ⟨hs, e⟩ := Hok.out.ne; rw [e]; simp)
          omega
        have hhv : heldV (add s.row k n) (k : Int) = g8 s.row k + n := by
          rw [heldV_nat _ k hk8, add_get s.row k k n Hrow.out.len hk8, if_pos rfl]
          rfl
        have hcnt : ((s.hist ++ [add s.row k n]) ++ [s.row]).count s.row = s.hist.count s.row + (if n = 0 then 2 else 1) := by
          rw [List.count_append, List.count_append, List.count_singleton_self]
          by_cases e : n = 0
          · rw [if_pos e, (add_same s.row k n Hrow.out.len hk8).2 e, List.count_singleton_self]
          · have : List.count s.row [add s.row k n] = 0 := List.count_eq_zero.2 (by simpa using fun h => e ((add_same s.row k n Hrow.out.len hk8).1 h.symm))
            rw [if_neg e, this]
        have hbnd : s.hist.count s.row ≤ 1000 := Nat.le_trans List.count_le_length Hs.out
        have hgb : 0 ≤ g8 s.row k ∧ g8 s.row k + n ≤ 1099511627776 := by
          have h2 := Hrow.out.pos k
          have h3 := get_le Hrow.out.pos hk8
          unfold g8
          omega
        have HL7 := Lib.hid hL7
        have Hrel := Lib.hid hrel
        have Hrel2 := Lib.hid hrel2
        have Hpk := Lib.hid hpk
        have Hhv := Lib.hid hhv
        have Hcnt := Lib.hid hcnt
        have ek := Lib.hid (eq8 s.row s.row Hrow.out.len Hrow.out.len)
        have hk0 : (0 : Int) ≤ (k : Int) := by omega
        have hk1 : (k : Int) < 8 := by omega
        subst he
        clear hok hst hst2 hL7 hrel hrel2 hpk hhv hcnt hsum
        obtain ⟨most, hmost⟩ : ∃ most, most = max (sumTo (add s.row k n) 8) (peakOf s.hist) := ⟨_, rfl⟩
        have Hmost := Lib.hid hmost
        clear hmost
        go_upto_region 17 with fail
        go_cut [15] (fun m wc => m = .int .i64 most ∧ Below w7.heap.size w7 wc)
        case first =>
          go_wp2_with fail
          refine (total_calls w7 p mb cap _ HL7.out).mono ?_
          rintro e w8 ⟨rfl, hb8⟩
          have HC8 := Lib.hid (HC7.out.below hb8)
          go_wp2_with fail
          refine (peak_calls w8 pc mc cap s HC8.out).mono ?_
          rintro e w9 ⟨rfl, rfl⟩
          go_wp2_with fail
          all_goals
            go_meet
            refine ⟨?_, hb8⟩
            rw [Hmost.out]
            congr 1
            show _ = max (sumTo (add s.row k n) 8) (peakOf s.hist)
            omega
        case rest =>
        obtain ⟨rfl, hb8⟩ := hcut
        have HL8 := Lib.hid (HL7.out.below hb8)
        have HC8 := Lib.hid (HC7.out.below hb8)
        have HQ8 := Lib.hid (HQ7.out.below hb8)
        have HB8 := Lib.hid (below_then HB7.out hb8)
        clear hb8 HL7 HC7 HQ7 HB7
        have HHD := Lib.hid (fun w (h : LedAt w p mb cap ⟨add s.row k n, s.hist ++ [add s.row k n]⟩) => show Calls Try.prog 22 #[.pointer (some ⟨p, 0, none⟩), .int .i64 (k : Int)] w fun e w' => e = .returned (.int .i64 (g8 s.row k + n)) ∧ w = w' from by
          have := held_calls w p mb cap _ (k : Int) h
          rw [Hhv.out] at this
          exact this)
        have HRL := Lib.hid (fun w (h : LedAt w p mb cap ⟨add s.row k n, s.hist ++ [add s.row k n]⟩) => show Calls Try.prog 48 #[.pointer (some ⟨p, 0, none⟩), .int .i64 (k : Int), .int .i64 n] w fun e w' => e = .returned (.int .i64 0) ∧ LedAt w' p mb cap ⟨s.row, (s.hist ++ [add s.row k n]) ++ [s.row]⟩ ∧ Kept [p, mb] w w' from by
          have := release_calls w p mb cap _ (k : Int) n h (by have := Hs.out; simp; omega)
          unfold Gives at this
          rw [Hrel2.out, Hrel.out] at this
          exact this)
        have HPK := Lib.hid (fun w (h : LedAt w p mb cap ⟨s.row, (s.hist ++ [add s.row k n]) ++ [s.row]⟩) => show Calls Try.prog 25 #[.pointer (some ⟨p, 0, none⟩)] w fun e w' => e = .returned (.int .i64 most) ∧ w = w' from by
          have := peak_calls w p mb cap _ h
          rw [Hpk.out, ← Hmost.out] at this
          exact this)
        have hgk : IntKind.i64.wrap (g8 s.row k + n) = g8 s.row k + n := IntWalk.i64_in _ (by omega)
        have ekk := ek.out
        rw [beq_self_eq_true] at ekk
        unfold rv at ekk
        have HQ9 := HQ8
        clear Hrel Hrel2 Hpk Hhv Hmost ek
        go_wp2_with fail
        go_region_held3 (fun w' => w'.cell? ⟨q, k, none⟩ = some (.int .i64 (g8 s.row k)) ∧ w'.cell? ⟨q, 0, none⟩ = some (.int .i64 (g8 s.row 0)) ∧ w'.cell? ⟨q, 1, none⟩ = some (.int .i64 (g8 s.row 1)) ∧ w'.cell? ⟨q, 2, none⟩ = some (.int .i64 (g8 s.row 2)) ∧ w'.cell? ⟨q, 3, none⟩ = some (.int .i64 (g8 s.row 3)) ∧ w'.cell? ⟨q, 4, none⟩ = some (.int .i64 (g8 s.row 4)) ∧ w'.cell? ⟨q, 5, none⟩ = some (.int .i64 (g8 s.row 5)) ∧ w'.cell? ⟨q, 6, none⟩ = some (.int .i64 (g8 s.row 6)) ∧ w'.cell? ⟨q, 7, none⟩ = some (.int .i64 (g8 s.row 7)))
          (first | exact ⟨HQ8.out.cell (rv_get _ k hk8), HQ8.out.cell (o := 0) rfl, HQ8.out.cell (o := 1) rfl, HQ8.out.cell (o := 2) rfl, HQ8.out.cell (o := 3) rfl, HQ8.out.cell (o := 4) rfl, HQ8.out.cell (o := 5) rfl, HQ8.out.cell (o := 6) rfl, HQ8.out.cell (o := 7) rfl⟩ | exact ⟨HQa.out.cell (rv_get _ k hk8), HQa.out.cell (o := 0) rfl, HQa.out.cell (o := 1) rfl, HQa.out.cell (o := 2) rfl, HQa.out.cell (o := 3) rfl, HQa.out.cell (o := 4) rfl, HQa.out.cell (o := 5) rfl, HQa.out.cell (o := 6) rfl, HQa.out.cell (o := 7) rfl⟩ | exact ⟨(HQa.out.below hb10).cell (rv_get _ k hk8), (HQa.out.below hb10).cell (o := 0) rfl, (HQa.out.below hb10).cell (o := 1) rfl, (HQa.out.below hb10).cell (o := 2) rfl, (HQa.out.below hb10).cell (o := 3) rfl, (HQa.out.below hb10).cell (o := 4) rfl, (HQa.out.below hb10).cell (o := 5) rfl, (HQa.out.below hb10).cell (o := 6) rfl, (HQa.out.below hb10).cell (o := 7) rfl⟩)
          ((first
            | (go_at_call 22; with_reducible refine (Calls.mono (HHD.out wc.drew HL8.out.drew) ?_); rintro e w9 ⟨rfl, rfl⟩)
            | (go_at_call 48; with_reducible refine (Calls.mono (HRL.out wc.drew HL8.out.drew) ?_); rintro e w9 ⟨rfl, hL9, hk9⟩; have HL9 := Lib.hid hL9; have HQa := Lib.hid (HQ8.out.kept (undrewK hk9) (by have := HN.out; simp; omega)); have HCa := Lib.hid (HC8.out.kept (undrewK hk9) (by have := HND.out; simp; omega) (by have := HND.out; simp; omega)); have HBa := Lib.hid (below_kept HB8.out (undrewK hk9) HB8.out.size HM.out); clear hL9 hk9)
            | (go_at_call 18; with_reducible refine (Calls.mono (all_calls w9 p mb cap _ HL9.out) ?_); unfold rv; rintro e w10 ⟨rfl, hb10⟩)
            | (go_at_call 25; with_reducible refine (Calls.mono (HPK.out w10 (HL9.out.below hb10)) ?_); rintro e w11 ⟨rfl, rfl⟩)))
        have HL10 := Lib.hid (HL9.out.below hb10)
        have HC10 := Lib.hid (HCa.out.below hb10)
        have HQ10 := Lib.hid (HQa.out.below hb10)
        have HB10 := Lib.hid (below_then HBa.out hb10)
        clear hb10 HL8 HC8 HQ8 HQ9 HB8 HL9 HCa HQa HBa HHD HRL HPK hgk
        by_cases hn : n = 0
        · have hn' : (n == 0) = true := by simpa using hn
          have HSN := Lib.hid (fun w (h : LedAt w p mb cap ⟨s.row, (s.hist ++ [add s.row k n]) ++ [s.row]⟩) => show Calls Try.prog 26 #[.pointer (some ⟨p, 0, none⟩), .agg #[.int .i64 (g8 s.row 0), .int .i64 (g8 s.row 1), .int .i64 (g8 s.row 2), .int .i64 (g8 s.row 3), .int .i64 (g8 s.row 4), .int .i64 (g8 s.row 5), .int .i64 (g8 s.row 6), .int .i64 (g8 s.row 7)]] w fun e w' => e = .returned (.int .i64 ((s.hist.count s.row : Nat) + 2)) ∧ Below w.heap.size w w' from by
            have := seen_calls w p mb cap _ s.row Hwf.out h
            simp only [Hcnt.out, if_pos hn] at this
            exact this)
          have HSC := Lib.hid (fun w (h : LedAt w pc mc cap s) => show Calls Try.prog 26 #[.pointer (some ⟨pc, 0, none⟩), .agg #[.int .i64 (g8 s.row 0), .int .i64 (g8 s.row 1), .int .i64 (g8 s.row 2), .int .i64 (g8 s.row 3), .int .i64 (g8 s.row 4), .int .i64 (g8 s.row 5), .int .i64 (g8 s.row 6), .int .i64 (g8 s.row 7)]] w fun e w' => e = .returned (.int .i64 (s.hist.count s.row : Nat)) ∧ Below w.heap.size w w' from seen_calls w pc mc cap s s.row Hwf.out h)
          have hadd : IntKind.i64.wrap ((s.hist.count s.row : Nat) + 2) = (s.hist.count s.row : Nat) + 2 := IntWalk.i64_in _ (by omega)
          generalize s.hist.count s.row = c0 at HSN HSC hadd ⊢
          go_wp2_with fail
          go_region_held3 (fun w' => w'.cell? ⟨q, 0, none⟩ = some (.int .i64 (g8 s.row 0)) ∧ w'.cell? ⟨q, 1, none⟩ = some (.int .i64 (g8 s.row 1)) ∧ w'.cell? ⟨q, 2, none⟩ = some (.int .i64 (g8 s.row 2)) ∧ w'.cell? ⟨q, 3, none⟩ = some (.int .i64 (g8 s.row 3)) ∧ w'.cell? ⟨q, 4, none⟩ = some (.int .i64 (g8 s.row 4)) ∧ w'.cell? ⟨q, 5, none⟩ = some (.int .i64 (g8 s.row 5)) ∧ w'.cell? ⟨q, 6, none⟩ = some (.int .i64 (g8 s.row 6)) ∧ w'.cell? ⟨q, 7, none⟩ = some (.int .i64 (g8 s.row 7)))
            (first | exact ⟨HQ10.out.cell (o := 0) rfl, HQ10.out.cell (o := 1) rfl, HQ10.out.cell (o := 2) rfl, HQ10.out.cell (o := 3) rfl, HQ10.out.cell (o := 4) rfl, HQ10.out.cell (o := 5) rfl, HQ10.out.cell (o := 6) rfl, HQ10.out.cell (o := 7) rfl⟩ | exact ⟨(HQ10.out.below hb11).cell (o := 0) rfl, (HQ10.out.below hb11).cell (o := 1) rfl, (HQ10.out.below hb11).cell (o := 2) rfl, (HQ10.out.below hb11).cell (o := 3) rfl, (HQ10.out.below hb11).cell (o := 4) rfl, (HQ10.out.below hb11).cell (o := 5) rfl, (HQ10.out.below hb11).cell (o := 6) rfl, (HQ10.out.below hb11).cell (o := 7) rfl⟩ | exact ⟨(HQ10.out.below hb12).cell (o := 0) rfl, (HQ10.out.below hb12).cell (o := 1) rfl, (HQ10.out.below hb12).cell (o := 2) rfl, (HQ10.out.below hb12).cell (o := 3) rfl, (HQ10.out.below hb12).cell (o := 4) rfl, (HQ10.out.below hb12).cell (o := 5) rfl, (HQ10.out.below hb12).cell (o := 6) rfl, (HQ10.out.below hb12).cell (o := 7) rfl⟩ | exact ⟨(HQ10.out.below hb13).cell (o := 0) rfl, (HQ10.out.below hb13).cell (o := 1) rfl, (HQ10.out.below hb13).cell (o := 2) rfl, (HQ10.out.below hb13).cell (o := 3) rfl, (HQ10.out.below hb13).cell (o := 4) rfl, (HQ10.out.below hb13).cell (o := 5) rfl, (HQ10.out.below hb13).cell (o := 6) rfl, (HQ10.out.below hb13).cell (o := 7) rfl⟩)
            ((first
              | (go_at_call 26; with_reducible refine (Calls.mono (HSN.out w10.drew HL10.out.drew) ?_); rintro e w11 ⟨rfl, hb11'⟩; have hb11 := undrew hb11'; clear hb11')
              | (go_at_call 26; with_reducible refine (Calls.mono (HSC.out w11 (HC10.out.below hb11)) ?_); rintro e w12 ⟨rfl, hb12'⟩; have hb12 := below_then hb11 hb12'; clear hb12')
              | (go_at_call 18; with_reducible refine (Calls.mono (all_calls w12 pc mc cap s (HC10.out.below hb12)) ?_); unfold rv; rintro e w13 ⟨rfl, hb13'⟩; have hb13 := below_then hb12 hb13'; clear hb13')))
          all_goals
            go_wp2_with fail
            go_ret
            exact ⟨rfl, below_then HB10.out hb13⟩
        · have hn' : (n == 0) = false := by simpa using hn
          have HSN := Lib.hid (fun w (h : LedAt w p mb cap ⟨s.row, (s.hist ++ [add s.row k n]) ++ [s.row]⟩) => show Calls Try.prog 26 #[.pointer (some ⟨p, 0, none⟩), .agg #[.int .i64 (g8 s.row 0), .int .i64 (g8 s.row 1), .int .i64 (g8 s.row 2), .int .i64 (g8 s.row 3), .int .i64 (g8 s.row 4), .int .i64 (g8 s.row 5), .int .i64 (g8 s.row 6), .int .i64 (g8 s.row 7)]] w fun e w' => e = .returned (.int .i64 ((s.hist.count s.row : Nat) + 1)) ∧ Below w.heap.size w w' from by
            have := seen_calls w p mb cap _ s.row Hwf.out h
            simp only [Hcnt.out, if_neg hn] at this
            exact this)
          have HSC := Lib.hid (fun w (h : LedAt w pc mc cap s) => show Calls Try.prog 26 #[.pointer (some ⟨pc, 0, none⟩), .agg #[.int .i64 (g8 s.row 0), .int .i64 (g8 s.row 1), .int .i64 (g8 s.row 2), .int .i64 (g8 s.row 3), .int .i64 (g8 s.row 4), .int .i64 (g8 s.row 5), .int .i64 (g8 s.row 6), .int .i64 (g8 s.row 7)]] w fun e w' => e = .returned (.int .i64 (s.hist.count s.row : Nat)) ∧ Below w.heap.size w w' from seen_calls w pc mc cap s s.row Hwf.out h)
          have hadd : IntKind.i64.wrap ((s.hist.count s.row : Nat) + 1) = (s.hist.count s.row : Nat) + 1 := IntWalk.i64_in _ (by omega)
          generalize s.hist.count s.row = c0 at HSN HSC hadd ⊢
          go_wp2_with fail
          go_region_held3 (fun w' => w'.cell? ⟨q, 0, none⟩ = some (.int .i64 (g8 s.row 0)) ∧ w'.cell? ⟨q, 1, none⟩ = some (.int .i64 (g8 s.row 1)) ∧ w'.cell? ⟨q, 2, none⟩ = some (.int .i64 (g8 s.row 2)) ∧ w'.cell? ⟨q, 3, none⟩ = some (.int .i64 (g8 s.row 3)) ∧ w'.cell? ⟨q, 4, none⟩ = some (.int .i64 (g8 s.row 4)) ∧ w'.cell? ⟨q, 5, none⟩ = some (.int .i64 (g8 s.row 5)) ∧ w'.cell? ⟨q, 6, none⟩ = some (.int .i64 (g8 s.row 6)) ∧ w'.cell? ⟨q, 7, none⟩ = some (.int .i64 (g8 s.row 7)))
            (first | exact ⟨HQ10.out.cell (o := 0) rfl, HQ10.out.cell (o := 1) rfl, HQ10.out.cell (o := 2) rfl, HQ10.out.cell (o := 3) rfl, HQ10.out.cell (o := 4) rfl, HQ10.out.cell (o := 5) rfl, HQ10.out.cell (o := 6) rfl, HQ10.out.cell (o := 7) rfl⟩ | exact ⟨(HQ10.out.below hb11).cell (o := 0) rfl, (HQ10.out.below hb11).cell (o := 1) rfl, (HQ10.out.below hb11).cell (o := 2) rfl, (HQ10.out.below hb11).cell (o := 3) rfl, (HQ10.out.below hb11).cell (o := 4) rfl, (HQ10.out.below hb11).cell (o := 5) rfl, (HQ10.out.below hb11).cell (o := 6) rfl, (HQ10.out.below hb11).cell (o := 7) rfl⟩ | exact ⟨(HQ10.out.below hb12).cell (o := 0) rfl, (HQ10.out.below hb12).cell (o := 1) rfl, (HQ10.out.below hb12).cell (o := 2) rfl, (HQ10.out.below hb12).cell (o := 3) rfl, (HQ10.out.below hb12).cell (o := 4) rfl, (HQ10.out.below hb12).cell (o := 5) rfl, (HQ10.out.below hb12).cell (o := 6) rfl, (HQ10.out.below hb12).cell (o := 7) rfl⟩ | exact ⟨(HQ10.out.below hb13).cell (o := 0) rfl, (HQ10.out.below hb13).cell (o := 1) rfl, (HQ10.out.below hb13).cell (o := 2) rfl, (HQ10.out.below hb13).cell (o := 3) rfl, (HQ10.out.below hb13).cell (o := 4) rfl, (HQ10.out.below hb13).cell (o := 5) rfl, (HQ10.out.below hb13).cell (o := 6) rfl, (HQ10.out.below hb13).cell (o := 7) rfl⟩)
            ((first
              | (go_at_call 26; with_reducible refine (Calls.mono (HSN.out w10.drew HL10.out.drew) ?_); rintro e w11 ⟨rfl, hb11'⟩; have hb11 := undrew hb11'; clear hb11')
              | (go_at_call 26; with_reducible refine (Calls.mono (HSC.out w11 (HC10.out.below hb11)) ?_); rintro e w12 ⟨rfl, hb12'⟩; have hb12 := below_then hb11 hb12'; clear hb12')
              | (go_at_call 18; with_reducible refine (Calls.mono (all_calls w12 pc mc cap s (HC10.out.below hb12)) ?_); unfold rv; rintro e w13 ⟨rfl, hb13'⟩; have hb13 := below_then hb12 hb13'; clear hb13')))
          all_goals
            go_wp2_with fail
            go_ret
            exact ⟨rfl, below_then HB10.out hb13⟩
      · have hnn := reserve_none hok
        have hst2 : stepR cap s 0 k 0 n = s := by unfold stepR; rw [hnn]
        rw [hst2] at hL7
        have HL7 := Lib.hid hL7
        generalize (stepL cap s.row 0 k 0 n).1 = v at he hok
        subst he
        have hv : (v != 0) = true := by simpa using hok
        have hv2 : (v == 0) = false := by simpa using hok
        have ek := eq8 s.row s.row Hrow.out.len Hrow.out.len
        rw [beq_self_eq_true] at ek
        unfold rv at ek
        have Hcn := Lib.hid (show s.hist.count s.row ≤ 1000 from Nat.le_trans List.count_le_length Hs.out)
        clear hnn hst2 hL7 hok
        go_wp2_with fail
        go_region_held3 (fun w' => w'.cell? ⟨q, 0, none⟩ = some (.int .i64 (g8 s.row 0)) ∧ w'.cell? ⟨q, 1, none⟩ = some (.int .i64 (g8 s.row 1)) ∧ w'.cell? ⟨q, 2, none⟩ = some (.int .i64 (g8 s.row 2)) ∧ w'.cell? ⟨q, 3, none⟩ = some (.int .i64 (g8 s.row 3)) ∧ w'.cell? ⟨q, 4, none⟩ = some (.int .i64 (g8 s.row 4)) ∧ w'.cell? ⟨q, 5, none⟩ = some (.int .i64 (g8 s.row 5)) ∧ w'.cell? ⟨q, 6, none⟩ = some (.int .i64 (g8 s.row 6)) ∧ w'.cell? ⟨q, 7, none⟩ = some (.int .i64 (g8 s.row 7)))
          (first | exact ⟨HQ7.out.cell (o := 0) rfl, HQ7.out.cell (o := 1) rfl, HQ7.out.cell (o := 2) rfl, HQ7.out.cell (o := 3) rfl, HQ7.out.cell (o := 4) rfl, HQ7.out.cell (o := 5) rfl, HQ7.out.cell (o := 6) rfl, HQ7.out.cell (o := 7) rfl⟩ | exact ⟨(HQ7.out.below hb8).cell (o := 0) rfl, (HQ7.out.below hb8).cell (o := 1) rfl, (HQ7.out.below hb8).cell (o := 2) rfl, (HQ7.out.below hb8).cell (o := 3) rfl, (HQ7.out.below hb8).cell (o := 4) rfl, (HQ7.out.below hb8).cell (o := 5) rfl, (HQ7.out.below hb8).cell (o := 6) rfl, (HQ7.out.below hb8).cell (o := 7) rfl⟩ | exact ⟨(HQ7.out.below hb9).cell (o := 0) rfl, (HQ7.out.below hb9).cell (o := 1) rfl, (HQ7.out.below hb9).cell (o := 2) rfl, (HQ7.out.below hb9).cell (o := 3) rfl, (HQ7.out.below hb9).cell (o := 4) rfl, (HQ7.out.below hb9).cell (o := 5) rfl, (HQ7.out.below hb9).cell (o := 6) rfl, (HQ7.out.below hb9).cell (o := 7) rfl⟩)
          ((first
            | (go_at_call 18; with_reducible refine (Calls.mono (all_calls w7.drew p mb cap s HL7.out.drew) ?_); unfold rv; rintro e w8 ⟨rfl, hb8'⟩; have hb8 := undrew hb8'; clear hb8')
            | (go_at_call 26; refine (Calls.mono (seen_calls w8 p mb cap s s.row Hwf.out (HL7.out.below hb8)) ?_); rintro e w9 ⟨rfl, hb9'⟩; have hb9 := below_then hb8 hb9'; clear hb9')))
        all_goals
          go_wp2_with fail
          go_ret
          exact ⟨rfl, below_then HB7.out hb9⟩
end Go.Proofs.Ytchnhmcedmicgaa.Led
