/- The contract of package ledger's set. -/
import Derived.Test.YtchnhmcedmicgaaLedB
namespace Go.Proofs.Ytchnhmcedmicgaa.Led
open Go.RowKit Go.Proofs.Ytchnhmcedmicgaa.Aid
set_option maxHeartbeats 4000000 in
set_option maxRecDepth 10000 in
theorem set_calls (w : World) (p mb : Nat) (cap : Int) (s : Run) (r : List Int) (h : LedAt w p mb cap s) (hr : OkR cap r) (hs : s.hist.length < 100000) :
    Calls Try.prog 77 #[.pointer (some ⟨p, 0, none⟩), .agg (rv r)] w fun e w' => e = .returned (.int .i64 0) ∧ LedAt w' p mb cap ⟨r, s.hist ++ [r]⟩ ∧ Kept [p, mb] w w' := by
  have HL := Lib.hid (h.below ((Below.refl _ _).alloc (Nat.le_refl _) (.cells (rv r) 24)))
  have HB := Lib.hid (box_row w r)
  have hk := (Kept.refl [p, mb] w).alloc (.cells (rv r) 24)
  obtain ⟨c0, c1, c2, c3, c4, c5, c6, c7, c8, c9, c10⟩ := HL.out.cells
  have hf := HL.out.head.free
  have hpq : p ≠ w.heap.size := by have := h.lt; omega
  have hpm := h.ne
  have hsm := h.small
  have HL0 := Lib.hid (show mb < w.heap.size from h.lt.2)
  have HOK := Lib.hid h.ok
  have HC := Lib.hid h.cap0
  have HR := Lib.hid hr
  have Hs := Lib.hid hs
  clear h hr c0 c10 hs
  unfold rv at hk HL HB c1 c2 c3 c4 c5 c6 c7 c8 c9 hf ⊢
  go_enter Try.func77, Try.ntmps77
  go_wp2_with fail
  clear c1 c2 c3 c4 c5 c6 c7 c8 c9 hf
  have hP := ((((((((HL.out.head.set 1 (.int .i64 (g8 r 0))).set 2 (.int .i64 (g8 r 1))).set 3 (.int .i64 (g8 r 2))).set 4 (.int .i64 (g8 r 3))).set 5 (.int .i64 (g8 r 4))).set 6 (.int .i64 (g8 r 5))).set 7 (.int .i64 (g8 r 6))).set 8 (.int .i64 (g8 r 7)))
  simp only [List.setIfInBounds_toArray, List.set_cons_zero, List.set_cons_succ] at hP
  have hB := ((((((((HB.out.other (a := ⟨p, 1, none⟩) (Ne.symm hpq) (.int .i64 (g8 r 0))).other (a := ⟨p, 2, none⟩) (Ne.symm hpq) (.int .i64 (g8 r 1))).other (a := ⟨p, 3, none⟩) (Ne.symm hpq) (.int .i64 (g8 r 2))).other (a := ⟨p, 4, none⟩) (Ne.symm hpq) (.int .i64 (g8 r 3))).other (a := ⟨p, 5, none⟩) (Ne.symm hpq) (.int .i64 (g8 r 4))).other (a := ⟨p, 6, none⟩) (Ne.symm hpq) (.int .i64 (g8 r 5))).other (a := ⟨p, 7, none⟩) (Ne.symm hpq) (.int .i64 (g8 r 6))).other (a := ⟨p, 8, none⟩) (Ne.symm hpq) (.int .i64 (g8 r 7)))
  have hK := ((((((((hk.setCell (p := ⟨p, 1, none⟩) (by simp) (.int .i64 (g8 r 0))).setCell (p := ⟨p, 2, none⟩) (by simp) (.int .i64 (g8 r 1))).setCell (p := ⟨p, 3, none⟩) (by simp) (.int .i64 (g8 r 2))).setCell (p := ⟨p, 4, none⟩) (by simp) (.int .i64 (g8 r 3))).setCell (p := ⟨p, 5, none⟩) (by simp) (.int .i64 (g8 r 4))).setCell (p := ⟨p, 6, none⟩) (by simp) (.int .i64 (g8 r 5))).setCell (p := ⟨p, 7, none⟩) (by simp) (.int .i64 (g8 r 6))).setCell (p := ⟨p, 8, none⟩) (by simp) (.int .i64 (g8 r 7)))
  obtain ⟨n0, g0, hM0, hn0, hg0⟩ := HL.out.map
  have hM := ((((((((hM0.other (a := ⟨p, 1, none⟩) (Ne.symm hpm) (.int .i64 (g8 r 0))).other (a := ⟨p, 2, none⟩) (Ne.symm hpm) (.int .i64 (g8 r 1))).other (a := ⟨p, 3, none⟩) (Ne.symm hpm) (.int .i64 (g8 r 2))).other (a := ⟨p, 4, none⟩) (Ne.symm hpm) (.int .i64 (g8 r 3))).other (a := ⟨p, 5, none⟩) (Ne.symm hpm) (.int .i64 (g8 r 4))).other (a := ⟨p, 6, none⟩) (Ne.symm hpm) (.int .i64 (g8 r 5))).other (a := ⟨p, 7, none⟩) (Ne.symm hpm) (.int .i64 (g8 r 6))).other (a := ⟨p, 8, none⟩) (Ne.symm hpm) (.int .i64 (g8 r 7)))
  generalize (((((((((w.alloc (.cells #[.int .i64 (g8 r 0), .int .i64 (g8 r 1), .int .i64 (g8 r 2), .int .i64 (g8 r 3), .int .i64 (g8 r 4), .int .i64 (g8 r 5), .int .i64 (g8 r 6), .int .i64 (g8 r 7)] 24)).setCell ⟨p, 1, none⟩ (.int .i64 (g8 r 0))).setCell ⟨p, 2, none⟩ (.int .i64 (g8 r 1))).setCell ⟨p, 3, none⟩ (.int .i64 (g8 r 2))).setCell ⟨p, 4, none⟩ (.int .i64 (g8 r 3))).setCell ⟨p, 5, none⟩ (.int .i64 (g8 r 4))).setCell ⟨p, 6, none⟩ (.int .i64 (g8 r 5))).setCell ⟨p, 7, none⟩ (.int .i64 (g8 r 6))).setCell ⟨p, 8, none⟩ (.int .i64 (g8 r 7))) = w2 at hP hB hK hM ⊢
  generalize w.heap.size = q at hB hpq HL0 ⊢
  have HP := Lib.hid hP
  have HB2 := Lib.hid hB
  have HM := Lib.hid hM
  have HK := Lib.hid hK
  clear hP hB hK hM hM0 HL HB hk
  have HS := Lib.hid (sum_calls r HR.out HC.out.2 w2.drew)
  have hpk := peakOf_snoc s.hist r
  have c9 := HP.out.cell (o := 9) rfl
  have hf := HP.out.free
  have Hpk := Lib.hid hpk
  clear hpk
  unfold rv at HS
  have d0 := HB2.out.cell (o := 0) rfl
  have d1 := HB2.out.cell (o := 1) rfl
  have d2 := HB2.out.cell (o := 2) rfl
  have d3 := HB2.out.cell (o := 3) rfl
  have d4 := HB2.out.cell (o := 4) rfl
  have d5 := HB2.out.cell (o := 5) rfl
  have d6 := HB2.out.cell (o := 6) rfl
  have d7 := HB2.out.cell (o := 7) rfl
  go_cut [] (fun wc => Blk wc p #[.int .i64 cap, .int .i64 (g8 r 0), .int .i64 (g8 r 1), .int .i64 (g8 r 2), .int .i64 (g8 r 3), .int .i64 (g8 r 4), .int .i64 (g8 r 5), .int .i64 (g8 r 6), .int .i64 (g8 r 7), .int .i64 (peakOf (s.hist ++ [r])), .map (some mb)] 116 ∧ Blk wc q #[.int .i64 (g8 r 0), .int .i64 (g8 r 1), .int .i64 (g8 r 2), .int .i64 (g8 r 3), .int .i64 (g8 r 4), .int .i64 (g8 r 5), .int .i64 (g8 r 6), .int .i64 (g8 r 7)] 24 ∧ MapI wc Try.prog 24 3 .i64 (keL .i64) (okL .i64 8) mb n0 g0 ∧ Kept [p, mb] w wc)
  case first =>
    go_region_with (first | (go_at_call 70; with_reducible refine (Calls.mono HS.out ?_); rintro e w3 ⟨rfl, hb3'⟩; have hb3 := undrew hb3'; clear hb3'; have e9 := (HP.out.below hb3).cell (o := 9) rfl; have ef := (HP.out.below hb3).free 9))
    all_goals go_wp2_with fail
    all_goals
      go_meet
      rw [Hpk.out]
      first
        | (rw [show max (peakOf s.hist) (sumTo r 8) = sumTo r 8 by omega]; exact ⟨(HP.out.below hb3).set 9 _, (HB2.out.below hb3).other (a := ⟨p, 9, none⟩) (Ne.symm hpq) _, (HM.out.below hb3).other (a := ⟨p, 9, none⟩) (Ne.symm hpm) _, (HK.out.and_below hb3).setCell (p := ⟨p, 9, none⟩) (by simp) _⟩)
        | (rw [show max (peakOf s.hist) (sumTo r 8) = peakOf s.hist by omega]; exact ⟨(HP.out.below hb3).set 9 _, (HB2.out.below hb3).other (a := ⟨p, 9, none⟩) (Ne.symm hpq) _, (HM.out.below hb3).other (a := ⟨p, 9, none⟩) (Ne.symm hpm) _, (HK.out.and_below hb3).setCell (p := ⟨p, 9, none⟩) (by simp) _⟩)
  case rest =>
  obtain ⟨hP, hB, hM, hK⟩ := hcut
  clear HP HB2 HM HK HS c9 hf d0 d1 d2 d3 d4 d5 d6 d7
  have hL4 : LedAt wc p mb cap ⟨s.row, s.hist⟩ → True := fun _ => trivial
  have HP := Lib.hid hP
  have HB2 := Lib.hid hB
  have HK := Lib.hid hK
  have hokr := OkR.wf HR.out HC.out.2
  obtain ⟨v0, st, w5, e1, e2, e3, k1, hst⟩ := (show MapI wc.drew Try.prog 24 3 .i64 (keL .i64) (okL .i64 8) mb n0 g0 from hM).bump keyAs8 lawK8 huM huI zero_int (by unfold maxLen; omega) hokr
  have hcnt : s.hist.count r ≤ s.hist.length := List.count_le_length
  obtain ⟨w6, e4, hM6, k2⟩ := hst ((s.hist.count r : Nat) + 1) (by simp [Lit.wf, IntKind.min, IntKind.max, IntKind.signed, IntKind.bits]; omega)
  rw [keL_rv r HR.out.len] at e1 e2 e3
  rw [hg0] at e2 e3
  have e4' : (Instr.entryStore MT (.map (some mb)) (.int .i64 st) (.int .i64 (IntKind.i64.wrap ((s.hist.count r : Nat) + 1)))).run Try.prog w5 = .ok () w6 := by rw [IntWalk.i64_in _ (by omega)]; exact e4
  have hbq : q ≠ mb := by have := HL0.out; omega
  have HP5 := Lib.hid (HP.out.kept (undrewK k1) (by simpa using hpm))
  have HP6 := Lib.hid (HP.out.kept (undrewK k2) (by simpa using hpm))
  have HB5 := Lib.hid (HB2.out.kept (undrewK k1) (by simpa using hbq))
  have HB6 := Lib.hid (HB2.out.kept (undrewK k2) (by simpa using hbq))
  have HM6 := Lib.hid (And.intro hM6 (show ∀ r', ((upd g0 r (some ((s.hist.count r : Nat) + 1))) r').getD 0 = ((s.hist ++ [r]).count r' : Nat) by
    intro r'
    unfold upd
    rw [List.count_append]
    by_cases e : r' = r
    · subst e
      rw [if_pos rfl]
      simp
    · rw [if_neg e, hg0]
      have : List.count r' [r] = 0 := List.count_eq_zero.2 (by simpa using e)
      rw [this]; rfl))
  have HK6 := Lib.hid (HK.out.trans ((undrewK k2).mono (by simp)))
  have Hsm := Lib.hid (show (if (g0 r).isSome = true then n0 else n0 + 1) ≤ (s.hist ++ [r]).length by simp; split <;> omega)
  have HSL := Lib.hid (show (s.hist ++ [r]).length ≤ 100000 by have := Hs.out; simp; omega)
  have HOK2 := Lib.hid (show OkS cap ⟨r, s.hist ++ [r]⟩ from ⟨⟨s.hist, rfl⟩, fun x hx => by
    rcases List.mem_append.1 hx with hx | hx
    · exact HOK.out.ok x hx
    · simp at hx; subst hx; exact HR.out⟩)
  clear hP hB hM hK hM6 hokr hst hL4 k1 k2 e4 hg0 hn0 Hpk
  have c10 := HP.out.cell (o := 10) rfl
  unfold rv at e1 e2 e3
  generalize s.hist.count r = cn at e2 e3 e4' hcnt
  go_wp2_with fail
  go_cut [] (fun wc => w6 = wc)
  case first =>
    go_region_held3 (fun w' => w'.cell? ⟨p, 10, none⟩ = some (.map (some mb)) ∧ w'.cell? ⟨q, 0, none⟩ = some (.int .i64 (g8 r 0)) ∧ w'.cell? ⟨q, 1, none⟩ = some (.int .i64 (g8 r 1)) ∧ w'.cell? ⟨q, 2, none⟩ = some (.int .i64 (g8 r 2)) ∧ w'.cell? ⟨q, 3, none⟩ = some (.int .i64 (g8 r 3)) ∧ w'.cell? ⟨q, 4, none⟩ = some (.int .i64 (g8 r 4)) ∧ w'.cell? ⟨q, 5, none⟩ = some (.int .i64 (g8 r 5)) ∧ w'.cell? ⟨q, 6, none⟩ = some (.int .i64 (g8 r 6)) ∧ w'.cell? ⟨q, 7, none⟩ = some (.int .i64 (g8 r 7)))
      (first | exact ⟨c10, HB2.out.cell (o := 0) rfl, HB2.out.cell (o := 1) rfl, HB2.out.cell (o := 2) rfl, HB2.out.cell (o := 3) rfl, HB2.out.cell (o := 4) rfl, HB2.out.cell (o := 5) rfl, HB2.out.cell (o := 6) rfl, HB2.out.cell (o := 7) rfl⟩ | exact ⟨HP5.out.cell (o := 10) rfl, HB5.out.cell (o := 0) rfl, HB5.out.cell (o := 1) rfl, HB5.out.cell (o := 2) rfl, HB5.out.cell (o := 3) rfl, HB5.out.cell (o := 4) rfl, HB5.out.cell (o := 5) rfl, HB5.out.cell (o := 6) rfl, HB5.out.cell (o := 7) rfl⟩ | exact ⟨HP6.out.cell (o := 10) rfl, HB6.out.cell (o := 0) rfl, HB6.out.cell (o := 1) rfl, HB6.out.cell (o := 2) rfl, HB6.out.cell (o := 3) rfl, HB6.out.cell (o := 4) rfl, HB6.out.cell (o := 5) rfl, HB6.out.cell (o := 6) rfl, HB6.out.cell (o := 7) rfl⟩)
      (fail)
    all_goals (go_wp2_with fail; go_meet; exact rfl)
  case rest =>
  obtain rfl := hcut
  go_wp2_with fail
  go_ret
  exact ⟨rfl, ⟨HP6.out, hpm, HC.out, HOK2.out, ⟨_, _, HM6.out.1, Hsm.out, HM6.out.2⟩, HSL.out⟩, HK6.out⟩

end Go.Proofs.Ytchnhmcedmicgaa.Led
