/- The walk of LedgerCalls: it returns true. -/
import Derived.Test.YtchnhmcedmicgaaLedT
namespace Go.Proofs.Ytchnhmcedmicgaa.Led
open Go.RowKit Go.Proofs.Ytchnhmcedmicgaa.Aid
theorem take_snoc {α : Type} (l : List α) (k : Nat) (d : α) (h : k < l.length) : l.take (k + 1) = l.take k ++ [l.getD k d] := by
  rw [List.take_succ_eq_append_getElem h, List.getD_eq_getElem?_getD, List.getElem?_eq_getElem h]
  rfl
theorem count_snoc (l : List (List Int)) (a r : List Int) : (l ++ [a]).count r = l.count r + (if a = r then 1 else 0) := by
  rw [List.count_append]
  by_cases h : a = r
  · subst h; rw [if_pos rfl, List.count_singleton_self]
  · rw [if_neg h]
    have : List.count r [a] = 0 := List.count_eq_zero.2 (by simpa using fun e => h e.symm)
    rw [this]
set_option maxRecDepth 10000 in
set_option maxHeartbeats 16000000 in
theorem calls_yes (w : World) (cap : Int) (A : Option Addr) (ca : Nat) (xs : List Q4) (kind : Int) (ask : List Int) (hx : Quads w A xs) (hask : okL .i64 8 ask) (h0 : 0 ≤ cap) (h1 : cap ≤ 1099511627776) (hl : ¬ 200 < (xs.length : Int)) :
    Calls Try.prog 3 #[.int .i64 cap, .slice A xs.length ca, .int .i64 kind, .agg (rv ask)] w fun e w' => e = .returned (.bool true) ∧ Below w.heap.size w w' := by
  have HX := Lib.hid hx
  have HASK := Lib.hid hask
  clear hx hask
  have hb0 := (Below.refl w.heap.size w).alloc (Nat.le_refl _) (.cells (rv ask) 24)
  have hQ0 := box_row w ask
  unfold rv at hb0 hQ0 ⊢
  go_enter Try.func3, Try.ntmps3
  go_upto_region 1 with fail
  generalize w.alloc (.cells #[.int .i64 (g8 ask 0), .int .i64 (g8 ask 1), .int .i64 (g8 ask 2), .int .i64 (g8 ask 3), .int .i64 (g8 ask 4), .int .i64 (g8 ask 5), .int .i64 (g8 ask 6), .int .i64 (g8 ask 7)] 24) = wb at hb0 hQ0 ⊢
  obtain ⟨aq, haq⟩ : ∃ q, q = w.heap.size := ⟨_, rfl⟩
  rw [← haq] at hQ0 ⊢
  have hal := hQ0.lt
  have hal2 : w.heap.size ≤ aq := by omega
  clear haq
  go_wp2_with fail
  refine (alive_calls wb).mono ?_
  rintro e w1 ⟨rfl, hb1⟩
  have hQ1 := hQ0.below hb1
  have hb1' := below_then hb0 hb1
  have hz1 := hb1.size
  clear hQ0 hb0 hb1
  go_wp2_with fail
  refine (new_yes w1 cap h0 h1).mono ?_
  rintro e w2 ⟨p, mb, rfl, hL, hp, hm, hb2⟩
  have hQ2 := hQ1.below hb2
  have hb2' := below_then hb1' hb2
  have hpl := hL.lt
  have hz2 := hb2.size
  clear hQ1 hb1' hb2
  go_wp2_with fail
  refine (rnew_yes w2 cap [p, mb] h0 h1 (by simp; omega)).mono ?_
  rintro e w3 ⟨rp, sb, rfl, hR, hrp, hsb, hb3⟩
  have HL := Lib.hid (hL.below hb3)
  have HR := Lib.hid hR
  have HQ := Lib.hid (hQ2.below hb3)
  have HB := Lib.hid (below_then hb2' hb3)
  have HM := Lib.hid (show ∀ x ∈ [p, mb], w.heap.size ≤ x by simp; omega)
  have HN := Lib.hid (show w.heap.size ≤ p ∧ w.heap.size ≤ mb ∧ w.heap.size ≤ rp ∧ rp ≠ p ∧ rp ≠ mb ∧ aq ≠ p ∧ aq ≠ mb ∧ aq ≠ rp ∧ w.heap.size ≤ aq from by omega)
  have HSB := Lib.hid (show w.heap.size ≤ sb ∧ sb ≠ aq from by omega)
  clear hL hR hQ2 hb2' hb3 hp hm hrp hsb hpl hal hal2 hz1 hz2
  go_wp2_with fail
  go_loopw [13] (fun i wr => ∃ (j : Nat) (s : Run) (sb c : Nat), j ≤ xs.length ∧ i = .int .i64 j ∧ LedAt wr p mb cap s ∧ RefAt wr rp sb c [p, mb] cap s.hist ∧ s.hist.length ≤ j + 1 ∧ Blk wr aq (rv ask) 24 ∧ w.heap.size ≤ sb ∧ sb ≠ aq ∧ Below w.heap.size w wr) (fun i _ => xs.length - (intOf i).toNat)
  case atStart => exact ⟨0, run0, sb, 1, by omega, rfl, HL.out, HR.out, by decide, HQ.out, HSB.out.1, HSB.out.2, HB.out⟩
  case round =>
    obtain ⟨j, s, sb, c, hj, rfl, hL, hR, hs, hQ, hsb, hsa, hB⟩ := hrel
    have HLr := Lib.hid hL
    have HRr := Lib.hid hR
    have HQr := Lib.hid hQ
    have HBr := Lib.hid hB
    have HSr := Lib.hid (And.intro hsb hsa)
    have Hs := Lib.hid (show s.hist.length ≤ 1000 by omega)
    have Hs1 := Lib.hid hs
    clear hL hR hQ hB hsb hsa hs HL HR HQ HB HSB
    by_cases hlt : j < xs.length
    · obtain ⟨b, o, rfl, ht⟩ := HX.out j hlt
      have htr := ht.below (w' := wr) (HBr.out.mono ((Nat.le_refl _)))
      clear ht
      generalize xs.getD j q40 = x at htr
      obtain ⟨wa, wb', wc', wd⟩ := x
      obtain ⟨hlb, c0, c1, c2, c3⟩ := htr
      have hj0 : (0 : Int) ≤ (j : Int) := by omega
      have hj1 : (j : Int) < (xs.length : Int) := by omega
      have hba := (Below.refl wr.heap.size wr).alloc (Nat.le_refl _) (.cells #[.int .i64 wa, .int .i64 wb', .int .i64 wc', .int .i64 wd] 34)
      have hC := Blk.new wr #[.int .i64 wa, .int .i64 wb', .int .i64 wc', .int .i64 wd] 34
      go_upto_region 15 with fail
      have HLw := Lib.hid (HLr.out.below hba)
      have HRw := Lib.hid (HRr.out.below hba)
      have HQw := Lib.hid (HQr.out.below hba)
      have HBw := Lib.hid (below_then HBr.out hba)
      have HCN := Lib.hid (show wr.heap.size ≠ p ∧ wr.heap.size ≠ mb ∧ wr.heap.size ≠ rp ∧ wr.heap.size ≠ sb from by have := HLr.out.lt; have := HRr.out.head.lt; have h4 : sb < wr.heap.size := (by obtain ⟨⟨hs, h1, _⟩, _⟩ := HRr.out.lists; exact h1.lt); omega)
      clear hba c0 c1 c2 c3 hlb HLr HRr HQr HBr
      generalize wr.alloc (.cells #[.int .i64 wa, .int .i64 wb', .int .i64 wc', .int .i64 wd] 34) = W at hC HLw HRw HQw HBw ⊢
      generalize wr.heap.size = cq at hC HCN ⊢
      have HC := Lib.hid hC
      obtain ⟨v, hv⟩ : ∃ v, v = (stepL cap s.row wa wb' wc' wd).1 := ⟨_, rfl⟩
      obtain ⟨s2, hs2⟩ : ∃ s2, s2 = stepR cap s wa wb' wc' wd := ⟨_, rfl⟩
      have hok2 : OkS cap s2 := by rw [hs2]; exact HLw.out.ok.step wa wb' wc' wd
      obtain ⟨hsx, hse⟩ := hok2.ne
      have hl2 : s2.hist.length ≤ j + 2 := by have h := step_len cap s wa wb' wc' wd; have := Hs1.out; rw [hs2]; omega
      have HDO := Lib.hid (show Calls Try.prog 15 #[.pointer (some ⟨p, 0, none⟩), .agg #[.int .i64 wa, .int .i64 wb', .int .i64 wc', .int .i64 wd]] W.drew fun e w' => e = .returned (.int .i64 v) ∧ LedAt w' p mb cap s2 ∧ Kept [p, mb] W.drew w' from by
        have := do_calls W.drew p mb cap s wa wb' wc' wd HLw.out.drew (by have := Hs.out; omega)
        unfold Gives at this
        rw [← hv, ← hs2] at this
        exact this)
      have HRDO := Lib.hid (fun w' (h : RefAt w' rp sb c [p, mb] cap s.hist) (hav : ∀ y ∈ [p, mb], y < w'.heap.size) => show Calls Try.prog 16 #[.pointer (some ⟨rp, 0, none⟩), .int .i64 (whatV wa), .int .i64 wb', .int .i64 wc', .int .i64 wd] w' fun e w'' => e = .returned (.int .i64 v) ∧ ∃ sb' c', RefAt w'' rp sb' c' [p, mb] cap s2.hist ∧ Kept [rp, sb] w' w'' ∧ (sb' = sb ∨ w'.heap.size ≤ sb') from by
        have := rdo_calls w' rp sb c [p, mb] cap s wa wb' wc' wd h HLw.out.ok h1 (by have := Hs.out; omega) hav
        unfold RGives at this
        rw [← hv, ← hs2] at this
        exact this)
      have HNW := Lib.hid (fun w' sb' c' (h : RefAt w' rp sb' c' [p, mb] cap s2.hist) => show Calls Try.prog 20 #[.pointer (some ⟨rp, 0, none⟩)] w' (NowGives s2.row w') from rnow_calls w' rp sb' c' [p, mb] cap hsx s2.row (by rw [← hse]; exact h) (by have e := congrArg List.length hse; simp at e; omega))
      have HOK2 := Lib.hid hok2
      have Hl2 := Lib.hid hl2
      have ek := eq8 s2.row s2.row hok2.row.len hok2.row.len
      rw [beq_self_eq_true] at ek
      unfold rv at ek
      have HWL := Lib.hid (show p < W.heap.size ∧ mb < W.heap.size ∧ rp < W.heap.size ∧ aq < W.heap.size from by have := HLw.out.lt; have := HRw.out.head.lt; have := HQw.out.lt; omega)
      clear hv hs2 hok2 hse hl2 hC
      go_region_held3 (fun w' => w'.cell? ⟨cq, 0, none⟩ = some (.int .i64 wa) ∧ w'.cell? ⟨cq, 1, none⟩ = some (.int .i64 wb') ∧ w'.cell? ⟨cq, 2, none⟩ = some (.int .i64 wc') ∧ w'.cell? ⟨cq, 3, none⟩ = some (.int .i64 wd))
        (first | exact ⟨HC.out.cell (o := 0) rfl, HC.out.cell (o := 1) rfl, HC.out.cell (o := 2) rfl, HC.out.cell (o := 3) rfl⟩ | exact ⟨HC3.out.cell (o := 0) rfl, HC3.out.cell (o := 1) rfl, HC3.out.cell (o := 2) rfl, HC3.out.cell (o := 3) rfl⟩ | exact ⟨HC4.out.cell (o := 0) rfl, HC4.out.cell (o := 1) rfl, HC4.out.cell (o := 2) rfl, HC4.out.cell (o := 3) rfl⟩ | exact ⟨HC5.out.cell (o := 0) rfl, HC5.out.cell (o := 1) rfl, HC5.out.cell (o := 2) rfl, HC5.out.cell (o := 3) rfl⟩ | exact ⟨HC6.out.cell (o := 0) rfl, HC6.out.cell (o := 1) rfl, HC6.out.cell (o := 2) rfl, HC6.out.cell (o := 3) rfl⟩ | exact ⟨HC7.out.cell (o := 0) rfl, HC7.out.cell (o := 1) rfl, HC7.out.cell (o := 2) rfl, HC7.out.cell (o := 3) rfl⟩ | exact ⟨HC8.out.cell (o := 0) rfl, HC8.out.cell (o := 1) rfl, HC8.out.cell (o := 2) rfl, HC8.out.cell (o := 3) rfl⟩)
        ((first
          | (go_at_call 15; with_reducible refine (Calls.mono HDO.out ?_); rintro e w3 ⟨rfl, hL3, hk3'⟩; have hk3 := undrewK hk3'; have HL3 := Lib.hid hL3; have HC3 := Lib.hid (HC.out.kept hk3 (by have := HCN.out; simp; omega)); have HR3 := Lib.hid (HRw.out.kept hk3 (by simp) (by have := HN.out; simp; omega)); have HQ3 := Lib.hid (HQw.out.kept hk3 (by have := HN.out; simp; omega)); have HB3 := Lib.hid (below_kept HBw.out hk3 HBw.out.size HM.out); have hz3 := hk3.size; clear hL3 hk3 hk3')
          | (go_at_call 17; refine (Calls.mono (what_calls w3 wa wb' wc' wd) ?_); rintro e w4 ⟨rfl, hb4⟩; have HL4 := Lib.hid (HL3.out.below hb4); have HC4 := Lib.hid (HC3.out.below hb4); have HR4 := Lib.hid (HR3.out.below hb4); have HQ4 := Lib.hid (HQ3.out.below hb4); have HB4 := Lib.hid (below_then HB3.out hb4); have hz4 := hb4.size; clear hb4)
          | (go_at_call 16; with_reducible refine (Calls.mono (HRDO.out w4 HR4.out (by have := HWL.out; simp; omega)) ?_); rintro e w5 ⟨rfl, sb5, c5, hR5, hk5, hloc⟩; have HR5 := Lib.hid hR5; have HC5 := Lib.hid (HC4.out.kept hk5 (by have := HCN.out; simp; omega)); have HL5 := Lib.hid (HL4.out.kept hk5 (by have := HN.out; have := HRw.out.lists.out; simp at this; simp; omega) (by have := HN.out; have := HRw.out.lists.out; simp at this; simp; omega)); have HQ5 := Lib.hid (HQ4.out.kept hk5 (by have := HN.out; have := HSr.out; simp; omega)); have HB5 := Lib.hid (below_kept HB4.out hk5 HB4.out.size (by have := HN.out; have := HSr.out; simp; omega)); have HS5 := Lib.hid (show w.heap.size ≤ sb5 ∧ sb5 ≠ aq from by have := HSr.out; have := HB4.out.size; have := HWL.out; rcases hloc with rfl | h <;> omega); clear hR5 hk5 hloc)
          | (go_at_call 18; with_reducible refine (Calls.mono (all_calls w5 p mb cap s2 HL5.out) ?_); unfold rv; rintro e w6 ⟨rfl, hb6⟩; have HL6 := Lib.hid (HL5.out.below hb6); have HC6 := Lib.hid (HC5.out.below hb6); have HR6 := Lib.hid (HR5.out.below hb6); have HQ6 := Lib.hid (HQ5.out.below hb6); have HB6 := Lib.hid (below_then HB5.out hb6); clear hb6)
          | (go_at_call 20; (with_reducible refine (Calls.mono (HNW.out w6 sb5 c5 HR6.out) ?_)); rintro e w7 ⟨b7, c7, rfl, hi7, _, nq, hw7⟩; have hb7 : Below w6.heap.size w6 w7 := (by rw [hw7]; exact below_drewN (Below.refl _ _) nq); have HL7 := Lib.hid (HL6.out.below hb7); have HC7 := Lib.hid (HC6.out.below hb7); have HR7 := Lib.hid (HR6.out.below hb7); have HQ7 := Lib.hid (HQ6.out.below hb7); have HB7 := Lib.hid (below_then HB6.out hb7); have HI7 := Lib.hid hi7; clear hb7 hw7 hi7)
          | (go_at_call 19; refine (Calls.mono (row_calls w7 _ c7 s2.row HOK2.out.row.len HI7.out) ?_); unfold rv; rintro e w8 ⟨rfl, hb8⟩; have HL8 := Lib.hid (HL7.out.below hb8); have HC8 := Lib.hid (HC7.out.below hb8); have HR8 := Lib.hid (HR7.out.below hb8); have HQ8 := Lib.hid (HQ7.out.below hb8); have HB8 := Lib.hid (below_then HB7.out hb8); clear hb8)))
      go_wp2_with fail
      go_roundw
      case rel => exact ⟨j + 1, s2, sb5, c5, by omega, by go_num, HL8.out, HR8.out, Hl2.out, HQ8.out, HS5.out.1, HS5.out.2, HB8.out⟩
      case measure => simp [intOf]; omega
    · obtain rfl : j = xs.length := by omega
      obtain ⟨hsx, hse⟩ := HLr.out.ok.ne
      have HNW := Lib.hid (rnow_calls wr rp sb c [p, mb] cap hsx s.row (by rw [← hse]; exact HRr.out) (by have e := congrArg List.length hse; have := Hs.out; simp at e; omega))
      have HMEM := Lib.hid (show s.row ∈ s.hist by rw [hse]; simp)
      clear hse HX
      go_wp2_with fail
      refine HNW.out.mono ?_
      rintro e w4 ⟨bn, cn, rfl, hin, _, nq, hw4⟩
      have hb4 : Below wr.heap.size wr w4 := by rw [hw4]; exact below_drewN (Below.refl _ _) nq
      have HL4 := Lib.hid (HLr.out.below hb4)
      have HR4 := Lib.hid (HRr.out.below hb4)
      have HQ4 := Lib.hid (HQr.out.below hb4)
      have HB4 := Lib.hid (below_then HBr.out hb4)
      have HI4 := Lib.hid hin
      clear hb4 hw4 hin HLr HRr HQr HBr HNW
      obtain ⟨hd, hhd⟩ : ∃ hd, hd = heldV s.row kind := ⟨_, rfl⟩
      obtain ⟨bb, hbb⟩ : ∃ bb, bb = decide (0 ≤ kind ∧ kind < 8) := ⟨_, rfl⟩
      have Hhd := Lib.hid hhd
      have Hbb := Lib.hid hbb
      clear hhd hbb
      go_upto_region 19 with fail
      go_cut [16, 91] (fun s16 s91 wc => s16 = .int .i64 0 ∧ s91 = .bool bb ∧ w4 = wc)
      case first =>
        by_cases k0 : 0 ≤ kind
        · by_cases k1 : kind < 8
          · go_wp2_with fail
            go_meet
            exact ⟨rfl, by rw [Hbb.out]; simp <;> omega, rfl⟩
          · go_wp2_with fail
            go_meet
            exact ⟨rfl, by rw [Hbb.out]; simp <;> omega, rfl⟩
        · go_wp2_with fail
          go_meet
          exact ⟨rfl, by rw [Hbb.out]; simp <;> omega, rfl⟩
      case rest =>
      obtain ⟨rfl, rfl, rfl⟩ := hcut
      rename_i hkk
      refine hkk _ _ ?_
      clear hkk
      go_cut [16] (fun s16 wc => s16 = .int .i64 hd ∧ w4 = wc)
      case first =>
        by_cases hk : 0 ≤ kind ∧ kind < 8
        · obtain ⟨q, hq⟩ := Int.eq_ofNat_of_zero_le hk.1
          obtain rfl : bb = true := by rw [Hbb.out, decide_eq_true hk]
          have hv : heldV s.row kind = s.row.getD q 0 := by rw [hq]; exact heldV_nat _ _ (by omega)
          have hk2 := hk.2
          subst hq
          obtain ⟨b, o, e, _, hc⟩ := HI4.out q (by rw [HL4.out.ok.row.len]; omega)
          injection e with e
          injection e with e1 e2
          subst e1 e2
          rw [Nat.zero_add] at hc
          have Hv := Lib.hid hv
          clear hv hk
          generalize s.row.getD q 0 = y at hc Hv
          go_wp2_with fail
          go_meet
          exact ⟨by rw [Hhd.out, Hv.out], rfl⟩
        · obtain rfl : bb = false := by rw [Hbb.out, decide_eq_false hk]
          have hv : heldV s.row kind = 0 := by unfold heldV; rw [if_neg hk]
          go_wp2_with fail
          go_meet
          exact ⟨by rw [Hhd.out, hv], rfl⟩
      case rest =>
      obtain ⟨rfl, rfl⟩ := hcut
      obtain ⟨N, hN⟩ : ∃ N, N = s.hist.length := ⟨_, rfl⟩
      have HN2 := Lib.hid hN
      have HOK := Lib.hid HL4.out.ok
      have hNb : N ≤ 1000 := by rw [hN]; exact Hs.out
      clear hN
      go_wp2_with fail
      go_loopw [17, 18, 19, 20] (fun pk se sa i wr => ∃ j : Nat, j ≤ N ∧ i = .int .i64 j ∧ pk = .int .i64 (peakOf (s.hist.take j)) ∧ se = .int .i64 ((s.hist.take j).count ask : Nat) ∧ sa = .int .i64 ((s.hist.take j).count s.row : Nat) ∧ LedAt wr p mb cap s ∧ RefAt wr rp sb c [p, mb] cap s.hist ∧ Blk wr aq (rv ask) 24 ∧ Ints wr .i64 (some ⟨bn, 0, none⟩) s.row ∧ Below w.heap.size w wr) (fun _ _ _ i _ => N - (intOf i).toNat)
      case atStart => exact ⟨0, by omega, rfl, rfl, rfl, rfl, HL4.out, HR4.out, HQ4.out, HI4.out, HB4.out⟩
      case round =>
        obtain ⟨j, hj, rfl, rfl, rfl, rfl, hL, hR, hQ, hI, hB⟩ := hrel
        have HLj := Lib.hid hL
        have HRj := Lib.hid hR
        have HQj := Lib.hid hQ
        have HIj := Lib.hid hI
        have HBj := Lib.hid hB
        clear hL hR hQ hI hB HL4 HR4 HQ4 HI4 HB4
        have hj0 : (0 : Int) ≤ (j : Int) := by omega
        have c1 := HRj.out.head.cell (o := 1) rfl
        rw [show (#[.int .i64 cap, .slice (some ⟨sb, 0, none⟩) s.hist.length c] : Array Value)[1] = .slice (some ⟨sb, 0, none⟩) s.hist.length c from rfl, ← HN2.out] at c1
        by_cases hlt : j < N
        · have hj1 : (j : Int) < (N : Int) := by omega
          have hjh : j < s.hist.length := by rw [← HN2.out]; exact hlt
          obtain ⟨bx, cx, hcx, hlx, hix⟩ := HRj.out.lists.at hjh
          have hokx : OkR cap (s.hist.getD j []) := HOK.out.ok _ (by rw [List.getD_eq_getElem?_getD, List.getElem?_eq_getElem hjh]; exact List.getElem_mem hjh)
          have htk := take_snoc s.hist j [] hjh
          have hp1 := peakOf_snoc (s.hist.take j) (s.hist.getD j [])
          have hc1 := count_snoc (s.hist.take j) (s.hist.getD j []) ask
          have hc2 := count_snoc (s.hist.take j) (s.hist.getD j []) s.row
          rw [← htk] at hp1 hc1 hc2
          have b1 : (s.hist.take j).count ask ≤ 1000 := Nat.le_trans List.count_le_length (by simp; omega)
          have b2 : (s.hist.take j).count s.row ≤ 1000 := Nat.le_trans List.count_le_length (by simp; omega)
          have HPK := Lib.hid hp1
          have HCA := Lib.hid hc1
          have HCB := Lib.hid hc2
          have HIX := Lib.hid hix
          have HOX := Lib.hid hokx
          clear htk hp1 hc1 hc2 hix hlx hokx hjh
          generalize s.hist.getD j [] = x at HPK HCA HCB HIX HOX
          generalize (s.hist.take j).count ask = na at b1 HCA ⊢
          generalize (s.hist.take j).count s.row = nb at b2 HCB ⊢
          generalize peakOf (s.hist.take j) = pk at HPK ⊢
          have w1 : IntKind.i64.wrap ((na : Int) + 1) = (na : Int) + 1 := IntWalk.i64_in _ (by omega)
          have w2 : IntKind.i64.wrap ((nb : Int) + 1) = (nb : Int) + 1 := IntWalk.i64_in _ (by omega)
          have HSX := Lib.hid (rsum_calls wr (some ⟨bx, 0, none⟩) cx x HOX.out h1 HIX.out)
          generalize sumTo x 8 = sx at HSX HPK
          go_upto_region 27 with fail
          go_cut [17] (fun m wc => m = .int .i64 (max pk sx) ∧ wr = wc)
          case first =>
            go_wp2_with fail
            refine HSX.out.mono ?_
            rintro e w5 ⟨rfl, rfl⟩
            go_wp2_with fail
            all_goals
              go_meet
              refine ⟨?_, rfl⟩
              congr 1
              omega
          case rest =>
          obtain ⟨rfl, rfl⟩ := hcut
          have HEA := Lib.hid (eq8 x ask HOX.out.len HASK.out.1)
          have HEB := Lib.hid (eq8 x s.row HOX.out.len HOK.out.row.len)
          have HRX := Lib.hid (row_calls wr.drew (some ⟨bx, 0, none⟩) cx x HOX.out.len (show Ints wr.drew .i64 _ _ from HIX.out))
          by_cases ea : x = ask
          · by_cases eb : x = s.row
            · have eqa := fun w => HEA.out w
              rw [show (x == ask) = true from by simpa using ea] at eqa
              have eqb := fun w => HEB.out w
              rw [show (x == s.row) = true from by simpa using eb] at eqb
              unfold rv at eqa eqb
              have hca : na + (if x = ask then 1 else 0) = na + 1 := by rw [if_pos ea]
              have hcb : nb + (if x = s.row then 1 else 0) = nb + 1 := by rw [if_pos eb]
              rw [hca] at HCA
              rw [hcb] at HCB
              clear hca hcb ea eb
              go_wp2_with fail
              go_region_held3 (fun w' => w'.cell? ⟨rp, 1, none⟩ = some (.slice (some ⟨sb, 0, none⟩) N c) ∧ w'.cell? ⟨sb, j, none⟩ = some (.slice (some ⟨bx, 0, none⟩) 8 cx) ∧ w'.cell? ⟨aq, 0, none⟩ = some (.int .i64 (g8 ask 0)) ∧ w'.cell? ⟨aq, 1, none⟩ = some (.int .i64 (g8 ask 1)) ∧ w'.cell? ⟨aq, 2, none⟩ = some (.int .i64 (g8 ask 2)) ∧ w'.cell? ⟨aq, 3, none⟩ = some (.int .i64 (g8 ask 3)) ∧ w'.cell? ⟨aq, 4, none⟩ = some (.int .i64 (g8 ask 4)) ∧ w'.cell? ⟨aq, 5, none⟩ = some (.int .i64 (g8 ask 5)) ∧ w'.cell? ⟨aq, 6, none⟩ = some (.int .i64 (g8 ask 6)) ∧ w'.cell? ⟨aq, 7, none⟩ = some (.int .i64 (g8 ask 7)))
                (first | exact ⟨c1, hcx, HQj.out.cell (o := 0) rfl, HQj.out.cell (o := 1) rfl, HQj.out.cell (o := 2) rfl, HQj.out.cell (o := 3) rfl, HQj.out.cell (o := 4) rfl, HQj.out.cell (o := 5) rfl, HQj.out.cell (o := 6) rfl, HQj.out.cell (o := 7) rfl⟩ | exact ⟨e1, ex, HQ5.out.cell (o := 0) rfl, HQ5.out.cell (o := 1) rfl, HQ5.out.cell (o := 2) rfl, HQ5.out.cell (o := 3) rfl, HQ5.out.cell (o := 4) rfl, HQ5.out.cell (o := 5) rfl, HQ5.out.cell (o := 6) rfl, HQ5.out.cell (o := 7) rfl⟩)
                ((first | (go_at_call 19; (with_reducible refine (Calls.mono HRX.out ?_)); unfold rv; rintro e w5 ⟨rfl, hb5'⟩; have hb5 := undrew hb5'; clear hb5'; have HL5 := Lib.hid (HLj.out.below hb5); have HR5 := Lib.hid (HRj.out.below hb5); have HQ5 := Lib.hid (HQj.out.below hb5); have HI5 := Lib.hid (HIj.out.below hb5); have HIX5 := Lib.hid (HIX.out.below hb5); have HB5 := Lib.hid (below_then HBj.out hb5); have e1 := (hb5.cell (p := ⟨rp, 1, none⟩) HRj.out.head.lt).trans c1; have ex := (hb5.cell (p := ⟨sb, j, none⟩) (World.block_lt_of_cell? _ _ hcx)).trans hcx; clear hb5)))
              go_wp2_with fail
              refine (row_calls w5 (some ⟨bx, 0, none⟩) cx x HOX.out.len HIX5.out).mono ?_
              unfold rv
              rintro e w6 ⟨rfl, hb6⟩
              have HL6 := Lib.hid (HL5.out.below hb6)
              have HR6 := Lib.hid (HR5.out.below hb6)
              have HQ6 := Lib.hid (HQ5.out.below hb6)
              have HI6 := Lib.hid (HI5.out.below hb6)
              have HB6 := Lib.hid (below_then HB5.out hb6)
              clear hb6 e1 ex c1 hcx
              go_wp2_with fail
              refine (row_calls w6 (some ⟨bn, 0, none⟩) cn s.row HOK.out.row.len HI6.out).mono ?_
              unfold rv
              rintro e w7 ⟨rfl, hb7⟩
              have HL7 := Lib.hid (HL6.out.below hb7)
              have HR7 := Lib.hid (HR6.out.below hb7)
              have HQ7 := Lib.hid (HQ6.out.below hb7)
              have HI7 := Lib.hid (HI6.out.below hb7)
              have HB7 := Lib.hid (below_then HB6.out hb7)
              clear hb7
              go_wp2_with fail
              go_roundw
              case rel => exact ⟨j + 1, by omega, by go_num, by rw [HPK.out], by rw [HCA.out]; rfl, by rw [HCB.out]; rfl, HL7.out, HR7.out, HQ7.out, HI7.out, HB7.out⟩
              case measure => simp [intOf]; omega
            · have eqa := fun w => HEA.out w
              rw [show (x == ask) = true from by simpa using ea] at eqa
              have eqb := fun w => HEB.out w
              rw [show (x == s.row) = false from by simpa using eb] at eqb
              unfold rv at eqa eqb
              have hca : na + (if x = ask then 1 else 0) = na + 1 := by rw [if_pos ea]
              have hcb : nb + (if x = s.row then 1 else 0) = nb + 0 := by rw [if_neg eb]
              rw [hca] at HCA
              rw [hcb] at HCB
              clear hca hcb ea eb
              go_wp2_with fail
              go_region_held3 (fun w' => w'.cell? ⟨rp, 1, none⟩ = some (.slice (some ⟨sb, 0, none⟩) N c) ∧ w'.cell? ⟨sb, j, none⟩ = some (.slice (some ⟨bx, 0, none⟩) 8 cx) ∧ w'.cell? ⟨aq, 0, none⟩ = some (.int .i64 (g8 ask 0)) ∧ w'.cell? ⟨aq, 1, none⟩ = some (.int .i64 (g8 ask 1)) ∧ w'.cell? ⟨aq, 2, none⟩ = some (.int .i64 (g8 ask 2)) ∧ w'.cell? ⟨aq, 3, none⟩ = some (.int .i64 (g8 ask 3)) ∧ w'.cell? ⟨aq, 4, none⟩ = some (.int .i64 (g8 ask 4)) ∧ w'.cell? ⟨aq, 5, none⟩ = some (.int .i64 (g8 ask 5)) ∧ w'.cell? ⟨aq, 6, none⟩ = some (.int .i64 (g8 ask 6)) ∧ w'.cell? ⟨aq, 7, none⟩ = some (.int .i64 (g8 ask 7)))
                (first | exact ⟨c1, hcx, HQj.out.cell (o := 0) rfl, HQj.out.cell (o := 1) rfl, HQj.out.cell (o := 2) rfl, HQj.out.cell (o := 3) rfl, HQj.out.cell (o := 4) rfl, HQj.out.cell (o := 5) rfl, HQj.out.cell (o := 6) rfl, HQj.out.cell (o := 7) rfl⟩ | exact ⟨e1, ex, HQ5.out.cell (o := 0) rfl, HQ5.out.cell (o := 1) rfl, HQ5.out.cell (o := 2) rfl, HQ5.out.cell (o := 3) rfl, HQ5.out.cell (o := 4) rfl, HQ5.out.cell (o := 5) rfl, HQ5.out.cell (o := 6) rfl, HQ5.out.cell (o := 7) rfl⟩)
                ((first | (go_at_call 19; (with_reducible refine (Calls.mono HRX.out ?_)); unfold rv; rintro e w5 ⟨rfl, hb5'⟩; have hb5 := undrew hb5'; clear hb5'; have HL5 := Lib.hid (HLj.out.below hb5); have HR5 := Lib.hid (HRj.out.below hb5); have HQ5 := Lib.hid (HQj.out.below hb5); have HI5 := Lib.hid (HIj.out.below hb5); have HIX5 := Lib.hid (HIX.out.below hb5); have HB5 := Lib.hid (below_then HBj.out hb5); have e1 := (hb5.cell (p := ⟨rp, 1, none⟩) HRj.out.head.lt).trans c1; have ex := (hb5.cell (p := ⟨sb, j, none⟩) (World.block_lt_of_cell? _ _ hcx)).trans hcx; clear hb5)))
              go_wp2_with fail
              refine (row_calls w5 (some ⟨bx, 0, none⟩) cx x HOX.out.len HIX5.out).mono ?_
              unfold rv
              rintro e w6 ⟨rfl, hb6⟩
              have HL6 := Lib.hid (HL5.out.below hb6)
              have HR6 := Lib.hid (HR5.out.below hb6)
              have HQ6 := Lib.hid (HQ5.out.below hb6)
              have HI6 := Lib.hid (HI5.out.below hb6)
              have HB6 := Lib.hid (below_then HB5.out hb6)
              clear hb6 e1 ex c1 hcx
              go_wp2_with fail
              refine (row_calls w6 (some ⟨bn, 0, none⟩) cn s.row HOK.out.row.len HI6.out).mono ?_
              unfold rv
              rintro e w7 ⟨rfl, hb7⟩
              have HL7 := Lib.hid (HL6.out.below hb7)
              have HR7 := Lib.hid (HR6.out.below hb7)
              have HQ7 := Lib.hid (HQ6.out.below hb7)
              have HI7 := Lib.hid (HI6.out.below hb7)
              have HB7 := Lib.hid (below_then HB6.out hb7)
              clear hb7
              go_wp2_with fail
              go_roundw
              case rel => exact ⟨j + 1, by omega, by go_num, by rw [HPK.out], by rw [HCA.out]; rfl, by rw [HCB.out]; rfl, HL7.out, HR7.out, HQ7.out, HI7.out, HB7.out⟩
              case measure => simp [intOf]; omega
          · by_cases eb : x = s.row
            · have eqa := fun w => HEA.out w
              rw [show (x == ask) = false from by simpa using ea] at eqa
              have eqb := fun w => HEB.out w
              rw [show (x == s.row) = true from by simpa using eb] at eqb
              unfold rv at eqa eqb
              have hca : na + (if x = ask then 1 else 0) = na + 0 := by rw [if_neg ea]
              have hcb : nb + (if x = s.row then 1 else 0) = nb + 1 := by rw [if_pos eb]
              rw [hca] at HCA
              rw [hcb] at HCB
              clear hca hcb ea eb
              go_wp2_with fail
              go_region_held3 (fun w' => w'.cell? ⟨rp, 1, none⟩ = some (.slice (some ⟨sb, 0, none⟩) N c) ∧ w'.cell? ⟨sb, j, none⟩ = some (.slice (some ⟨bx, 0, none⟩) 8 cx) ∧ w'.cell? ⟨aq, 0, none⟩ = some (.int .i64 (g8 ask 0)) ∧ w'.cell? ⟨aq, 1, none⟩ = some (.int .i64 (g8 ask 1)) ∧ w'.cell? ⟨aq, 2, none⟩ = some (.int .i64 (g8 ask 2)) ∧ w'.cell? ⟨aq, 3, none⟩ = some (.int .i64 (g8 ask 3)) ∧ w'.cell? ⟨aq, 4, none⟩ = some (.int .i64 (g8 ask 4)) ∧ w'.cell? ⟨aq, 5, none⟩ = some (.int .i64 (g8 ask 5)) ∧ w'.cell? ⟨aq, 6, none⟩ = some (.int .i64 (g8 ask 6)) ∧ w'.cell? ⟨aq, 7, none⟩ = some (.int .i64 (g8 ask 7)))
                (first | exact ⟨c1, hcx, HQj.out.cell (o := 0) rfl, HQj.out.cell (o := 1) rfl, HQj.out.cell (o := 2) rfl, HQj.out.cell (o := 3) rfl, HQj.out.cell (o := 4) rfl, HQj.out.cell (o := 5) rfl, HQj.out.cell (o := 6) rfl, HQj.out.cell (o := 7) rfl⟩ | exact ⟨e1, ex, HQ5.out.cell (o := 0) rfl, HQ5.out.cell (o := 1) rfl, HQ5.out.cell (o := 2) rfl, HQ5.out.cell (o := 3) rfl, HQ5.out.cell (o := 4) rfl, HQ5.out.cell (o := 5) rfl, HQ5.out.cell (o := 6) rfl, HQ5.out.cell (o := 7) rfl⟩)
                ((first | (go_at_call 19; (with_reducible refine (Calls.mono HRX.out ?_)); unfold rv; rintro e w5 ⟨rfl, hb5'⟩; have hb5 := undrew hb5'; clear hb5'; have HL5 := Lib.hid (HLj.out.below hb5); have HR5 := Lib.hid (HRj.out.below hb5); have HQ5 := Lib.hid (HQj.out.below hb5); have HI5 := Lib.hid (HIj.out.below hb5); have HIX5 := Lib.hid (HIX.out.below hb5); have HB5 := Lib.hid (below_then HBj.out hb5); have e1 := (hb5.cell (p := ⟨rp, 1, none⟩) HRj.out.head.lt).trans c1; have ex := (hb5.cell (p := ⟨sb, j, none⟩) (World.block_lt_of_cell? _ _ hcx)).trans hcx; clear hb5)))
              go_wp2_with fail
              refine (row_calls w5 (some ⟨bx, 0, none⟩) cx x HOX.out.len HIX5.out).mono ?_
              unfold rv
              rintro e w6 ⟨rfl, hb6⟩
              have HL6 := Lib.hid (HL5.out.below hb6)
              have HR6 := Lib.hid (HR5.out.below hb6)
              have HQ6 := Lib.hid (HQ5.out.below hb6)
              have HI6 := Lib.hid (HI5.out.below hb6)
              have HB6 := Lib.hid (below_then HB5.out hb6)
              clear hb6 e1 ex c1 hcx
              go_wp2_with fail
              refine (row_calls w6 (some ⟨bn, 0, none⟩) cn s.row HOK.out.row.len HI6.out).mono ?_
              unfold rv
              rintro e w7 ⟨rfl, hb7⟩
              have HL7 := Lib.hid (HL6.out.below hb7)
              have HR7 := Lib.hid (HR6.out.below hb7)
              have HQ7 := Lib.hid (HQ6.out.below hb7)
              have HI7 := Lib.hid (HI6.out.below hb7)
              have HB7 := Lib.hid (below_then HB6.out hb7)
              clear hb7
              go_wp2_with fail
              go_roundw
              case rel => exact ⟨j + 1, by omega, by go_num, by rw [HPK.out], by rw [HCA.out]; rfl, by rw [HCB.out]; rfl, HL7.out, HR7.out, HQ7.out, HI7.out, HB7.out⟩
              case measure => simp [intOf]; omega
            · have eqa := fun w => HEA.out w
              rw [show (x == ask) = false from by simpa using ea] at eqa
              have eqb := fun w => HEB.out w
              rw [show (x == s.row) = false from by simpa using eb] at eqb
              unfold rv at eqa eqb
              have hca : na + (if x = ask then 1 else 0) = na + 0 := by rw [if_neg ea]
              have hcb : nb + (if x = s.row then 1 else 0) = nb + 0 := by rw [if_neg eb]
              rw [hca] at HCA
              rw [hcb] at HCB
              clear hca hcb ea eb
              go_wp2_with fail
              go_region_held3 (fun w' => w'.cell? ⟨rp, 1, none⟩ = some (.slice (some ⟨sb, 0, none⟩) N c) ∧ w'.cell? ⟨sb, j, none⟩ = some (.slice (some ⟨bx, 0, none⟩) 8 cx) ∧ w'.cell? ⟨aq, 0, none⟩ = some (.int .i64 (g8 ask 0)) ∧ w'.cell? ⟨aq, 1, none⟩ = some (.int .i64 (g8 ask 1)) ∧ w'.cell? ⟨aq, 2, none⟩ = some (.int .i64 (g8 ask 2)) ∧ w'.cell? ⟨aq, 3, none⟩ = some (.int .i64 (g8 ask 3)) ∧ w'.cell? ⟨aq, 4, none⟩ = some (.int .i64 (g8 ask 4)) ∧ w'.cell? ⟨aq, 5, none⟩ = some (.int .i64 (g8 ask 5)) ∧ w'.cell? ⟨aq, 6, none⟩ = some (.int .i64 (g8 ask 6)) ∧ w'.cell? ⟨aq, 7, none⟩ = some (.int .i64 (g8 ask 7)))
                (first | exact ⟨c1, hcx, HQj.out.cell (o := 0) rfl, HQj.out.cell (o := 1) rfl, HQj.out.cell (o := 2) rfl, HQj.out.cell (o := 3) rfl, HQj.out.cell (o := 4) rfl, HQj.out.cell (o := 5) rfl, HQj.out.cell (o := 6) rfl, HQj.out.cell (o := 7) rfl⟩ | exact ⟨e1, ex, HQ5.out.cell (o := 0) rfl, HQ5.out.cell (o := 1) rfl, HQ5.out.cell (o := 2) rfl, HQ5.out.cell (o := 3) rfl, HQ5.out.cell (o := 4) rfl, HQ5.out.cell (o := 5) rfl, HQ5.out.cell (o := 6) rfl, HQ5.out.cell (o := 7) rfl⟩)
                ((first | (go_at_call 19; (with_reducible refine (Calls.mono HRX.out ?_)); unfold rv; rintro e w5 ⟨rfl, hb5'⟩; have hb5 := undrew hb5'; clear hb5'; have HL5 := Lib.hid (HLj.out.below hb5); have HR5 := Lib.hid (HRj.out.below hb5); have HQ5 := Lib.hid (HQj.out.below hb5); have HI5 := Lib.hid (HIj.out.below hb5); have HIX5 := Lib.hid (HIX.out.below hb5); have HB5 := Lib.hid (below_then HBj.out hb5); have e1 := (hb5.cell (p := ⟨rp, 1, none⟩) HRj.out.head.lt).trans c1; have ex := (hb5.cell (p := ⟨sb, j, none⟩) (World.block_lt_of_cell? _ _ hcx)).trans hcx; clear hb5)))
              go_wp2_with fail
              refine (row_calls w5 (some ⟨bx, 0, none⟩) cx x HOX.out.len HIX5.out).mono ?_
              unfold rv
              rintro e w6 ⟨rfl, hb6⟩
              have HL6 := Lib.hid (HL5.out.below hb6)
              have HR6 := Lib.hid (HR5.out.below hb6)
              have HQ6 := Lib.hid (HQ5.out.below hb6)
              have HI6 := Lib.hid (HI5.out.below hb6)
              have HB6 := Lib.hid (below_then HB5.out hb6)
              clear hb6 e1 ex c1 hcx
              go_wp2_with fail
              refine (row_calls w6 (some ⟨bn, 0, none⟩) cn s.row HOK.out.row.len HI6.out).mono ?_
              unfold rv
              rintro e w7 ⟨rfl, hb7⟩
              have HL7 := Lib.hid (HL6.out.below hb7)
              have HR7 := Lib.hid (HR6.out.below hb7)
              have HQ7 := Lib.hid (HQ6.out.below hb7)
              have HI7 := Lib.hid (HI6.out.below hb7)
              have HB7 := Lib.hid (below_then HB6.out hb7)
              clear hb7
              go_wp2_with fail
              go_roundw
              case rel => exact ⟨j + 1, by omega, by go_num, by rw [HPK.out], by rw [HCA.out]; rfl, by rw [HCB.out]; rfl, HL7.out, HR7.out, HQ7.out, HI7.out, HB7.out⟩
              case measure => simp [intOf]; omega
        · obtain rfl : j = N := by omega
          have htN : s.hist.take j = s.hist := by rw [HN2.out]; exact List.take_length
          rw [htN]
          have HT := Lib.hid (fun w => total_calls w p mb cap s)
          have HF := Lib.hid (fun w => left_calls w p mb cap s)
          have HSM := Lib.hid (fun w (h : Ints w .i64 (some ⟨bn, 0, none⟩) s.row) => rsum_calls w _ cn s.row HOK.out.row h1 h)
          have hs0 := sumTo_pos HOK.out.row.pos 8
          have hs1 := HOK.out.row.le
          have HHD := Lib.hid (show Calls Try.prog 22 #[.pointer (some ⟨p, 0, none⟩), .int .i64 kind] wr fun e w' => e = .returned (.int .i64 hd) ∧ wr = w' from by rw [Hhd.out]; exact held_calls wr p mb cap s kind HLj.out)
          have HSA := Lib.hid (fun w => seen_calls w p mb cap s ask HASK.out)
          have HSB := Lib.hid (fun w => seen_calls w p mb cap s s.row (HOK.out.row.wf h1))
          have HPP := Lib.hid (fun w => peak_calls w p mb cap s)
          generalize sumTo s.row 8 = t at HT HF HSM hs0 hs1
          generalize peakOf s.hist = pk at HPP ⊢
          generalize s.hist.count ask = na at HSA ⊢
          generalize s.hist.count s.row = nb at HSB ⊢
          have hsub : IntKind.i64.wrap (cap - t) = cap - t := IntWalk.i64_in _ (by omega)
          clear htN
          go_wp2_with fail
          refine HHD.out.mono ?_
          rintro e w5 ⟨rfl, rfl⟩
          go_wp2_with fail
          refine (HT.out wr HLj.out).mono ?_
          rintro e w5 ⟨rfl, hb5⟩
          have HL5 := Lib.hid (HLj.out.below hb5)
          have HQ5 := Lib.hid (HQj.out.below hb5)
          have HI5 := Lib.hid (HIj.out.below hb5)
          have HB5 := Lib.hid (below_then HBj.out hb5)
          clear hb5
          go_wp2_with fail
          refine (HSM.out w5 HI5.out).mono ?_
          rintro e w6 ⟨rfl, rfl⟩
          go_wp2_with fail
          refine (HF.out w5 HL5.out).mono ?_
          rintro e w6 ⟨rfl, hb6⟩
          have HL6 := Lib.hid (HL5.out.below hb6)
          have HQ6 := Lib.hid (HQ5.out.below hb6)
          have HI6 := Lib.hid (HI5.out.below hb6)
          have HB6 := Lib.hid (below_then HB5.out hb6)
          clear hb6
          go_wp2_with fail
          refine (HSM.out w6 HI6.out).mono ?_
          rintro e w7 ⟨rfl, rfl⟩
          go_wp2_with fail
          refine (HPP.out w6 HL6.out).mono ?_
          rintro e w7 ⟨rfl, rfl⟩
          have q6 := HQ6.out
          unfold rv at q6
          have d0 := q6.cell (o := 0) rfl
          have d1 := q6.cell (o := 1) rfl
          have d2 := q6.cell (o := 2) rfl
          have d3 := q6.cell (o := 3) rfl
          have d4 := q6.cell (o := 4) rfl
          have d5 := q6.cell (o := 5) rfl
          have d6 := q6.cell (o := 6) rfl
          have d7 := q6.cell (o := 7) rfl
          clear q6
          go_wp2_with fail
          refine (HSA.out w6 HL6.out).mono ?_
          rintro e w7 ⟨rfl, hb7⟩
          have HL7 := Lib.hid (HL6.out.below hb7)
          have HI7 := Lib.hid (HI6.out.below hb7)
          have HB7 := Lib.hid (below_then HB6.out hb7)
          clear hb7 d0 d1 d2 d3 d4 d5 d6 d7
          go_wp2_with fail
          refine (row_calls w7 _ cn s.row HOK.out.row.len HI7.out).mono ?_
          rintro e w8 ⟨rfl, hb8⟩
          have HL8 := Lib.hid (HL7.out.below hb8)
          have HB8 := Lib.hid (below_then HB7.out hb8)
          clear hb8
          go_wp2_with fail
          refine (HSB.out w8 HL8.out).mono ?_
          rintro e w9 ⟨rfl, hb9⟩
          have HB9 := Lib.hid (below_then HB8.out hb9)
          clear hb9
          go_wp2_with fail
          go_ret
          exact ⟨rfl, HB9.out⟩
end Go.Proofs.Ytchnhmcedmicgaa.Led
