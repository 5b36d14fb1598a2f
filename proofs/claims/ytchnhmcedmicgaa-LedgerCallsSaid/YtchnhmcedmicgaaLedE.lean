/- The contracts of package ledger: New, Clone; and of the law's own Do. -/
import Derived.Test.YtchnhmcedmicgaaLedD
namespace Go.Proofs.Ytchnhmcedmicgaa.Led
open Go.RowKit Go.Proofs.Ytchnhmcedmicgaa.Aid
def run0 : Run := ⟨zero8, [zero8]⟩
theorem peak0 : peakOf run0.hist = 0 := by decide +kernel
theorem row0 : ∀ k, k < 8 → g8 run0.row k = 0 := by
  intro k hk
  rcases (by omega : k = 0 ∨ k = 1 ∨ k = 2 ∨ k = 3 ∨ k = 4 ∨ k = 5 ∨ k = 6 ∨ k = 7) with rfl | rfl | rfl | rfl | rfl | rfl | rfl | rfl <;> rfl
theorem zero8_wf : okL .i64 8 zero8 := (zero8_ok (cap := 0) (Int.le_refl _)).wf (by decide)
theorem new_yes (w : World) (cap : Int) (h0 : 0 ≤ cap) (h1 : cap ≤ 1099511627776) :
    Calls Try.prog 13 #[.int .i64 cap] w fun e w' => ∃ p mb, e = .returned (.tuple #[.pointer (some ⟨p, 0, none⟩), .int .i64 0]) ∧ LedAt w' p mb cap run0 ∧ w.heap.size ≤ p ∧ w.heap.size ≤ mb ∧ Below w.heap.size w w' := by
  have hmm := @run_makeMap Try.prog
  have HM0 := Lib.hid (MapI.made w Try.prog 24 3 .i64 (keL .i64) (okL .i64 8))
  have hba := (Below.refl w.heap.size w).alloc (Nat.le_refl _) (.map #[] 0)
  go_enter Try.func13, Try.ntmps13
  go_wp2_with (first
    | (refine at_insert _ rfl _ _ _ _ rfl keyAs8 huM huI (by decide) HM0.out rfl zero8 zero8_wf 1 (by decide) rfl rfl ?_; intro w1 hM1 hk1)
    | fail)
  go_ret2
  have hb1 : Below w.heap.size w w1 := below_kept hba hk1 (by simp) (by simp)
  refine ⟨_, _, rfl, ⟨?_, ?_, ⟨h0, h1⟩, OkS.start h0, ⟨1, _, hM1.alloc _, Nat.le_refl _, fun r => ?_⟩, by decide⟩, hb1.size, Nat.le_refl _, hb1.alloc hb1.size _⟩
  · exact Blk.new w1 _ _
  · have := hM1.lt; omega
  · unfold upd
    by_cases e : r = zero8
    · subst e
      rw [if_pos rfl]
      rfl
    · rw [if_neg e]
      have : List.count r [zero8] = 0 := List.count_eq_zero.2 (by simpa using e)
      show (0 : Int) = ((List.count r [zero8] : Nat) : Int)
      rw [this]; rfl
theorem new_no (w : World) (cap : Int) (h : cap < 0 ∨ 1099511627776 < cap) :
    Calls Try.prog 13 #[.int .i64 cap] w fun e w' => e = .returned (.tuple #[.pointer none, .int .i64 11]) ∧ w = w' := by
  by_cases h0 : cap < 0
  · clear h
    go_enter Try.func13, Try.ntmps13
    go_wp2
    go_ret2
    exact ⟨rfl, rfl⟩
  · have h1 : 1099511627776 < cap := by omega
    clear h
    go_enter Try.func13, Try.ntmps13
    go_wp2
    go_ret2
    exact ⟨rfl, rfl⟩
set_option maxRecDepth 10000 in
theorem mclone_calls (w : World) (b : Nat) (es : Array MapEntry) (clock : Nat) (hb : w.heap[b]? = some (.map es clock)) :
    Calls Try.prog 76 #[.map (some b)] w fun e w' => e = .returned (.map (some w.heap.size)) ∧ w' = w.alloc (.map es clock) := by
  have hq := fun w => run_eql_map_nil_sl (P := Try.prog) w 114 _ _ (some b) huM
  go_enter Try.func76, Try.ntmps76
  go_wp2
  rw [run_callFunc_extern Try.func92 (by kernel_rfl) (by kernel_rfl) (by kernel_rfl) (e := Extern.MapsClone.clone) (by kernel_rfl), run_maps_clone_sl w 114 hb]
  simp only [Result.andThen]
  rw [Oper.upon_value]
  go_wp2
  rw [run_typeAssert_map_sl _ 114 20 _ _ _ huM]
  simp only [Result.andThen]
  rw [Oper.upon_value]
  go_wp2
  go_ret
  exact ⟨rfl, rfl⟩
theorem clone_calls (w : World) (p mb : Nat) (cap : Int) (s : Run) (h : LedAt w p mb cap s) :
    Calls Try.prog 46 #[.pointer (some ⟨p, 0, none⟩)] w fun e w' => ∃ p' mb', e = .returned (.pointer (some ⟨p', 0, none⟩)) ∧ LedAt w' p' mb' cap s ∧ w.heap.size ≤ p' ∧ w.heap.size ≤ mb' ∧ Below w.heap.size w w' := by
  obtain ⟨c0, c1, c2, c3, c4, c5, c6, c7, c8, c9, c10⟩ := h.cells
  have HL := Lib.hid h
  clear h
  go_enter Try.func46, Try.ntmps46
  go_upto_region 2 with fail
  have hb1 := (Below.refl w.heap.size w).alloc (Nat.le_refl _) (.cells #[.int .i64 cap, .int .i64 (g8 s.row 0), .int .i64 (g8 s.row 1), .int .i64 (g8 s.row 2), .int .i64 (g8 s.row 3), .int .i64 (g8 s.row 4), .int .i64 (g8 s.row 5), .int .i64 (g8 s.row 6), .int .i64 (g8 s.row 7), .int .i64 (peakOf s.hist), .map (some mb)] 116)
  have hB1 := Blk.new w #[.int .i64 cap, .int .i64 (g8 s.row 0), .int .i64 (g8 s.row 1), .int .i64 (g8 s.row 2), .int .i64 (g8 s.row 3), .int .i64 (g8 s.row 4), .int .i64 (g8 s.row 5), .int .i64 (g8 s.row 6), .int .i64 (g8 s.row 7), .int .i64 (peakOf s.hist), .map (some mb)] 116
  generalize w.alloc (.cells #[.int .i64 cap, .int .i64 (g8 s.row 0), .int .i64 (g8 s.row 1), .int .i64 (g8 s.row 2), .int .i64 (g8 s.row 3), .int .i64 (g8 s.row 4), .int .i64 (g8 s.row 5), .int .i64 (g8 s.row 6), .int .i64 (g8 s.row 7), .int .i64 (peakOf s.hist), .map (some mb)] 116) = w1 at hb1 hB1 ⊢
  obtain ⟨q, hq⟩ : ∃ q, q = w.heap.size := ⟨_, rfl⟩
  rw [← hq] at hB1 ⊢
  have hq' : w.heap.size ≤ q := by omega
  clear hq c0 c1 c2 c3 c4 c5 c6 c7 c8 c9 c10
  have c10 := (HL.out.below hb1).cells.c10
  obtain ⟨n, g, hM, hn, hg⟩ := (HL.out.below hb1).map
  obtain ⟨es, clock, hes, hM2⟩ := hM.copy
  have HM2 := Lib.hid hM2
  have HB1 := Lib.hid hB1
  have HMC := Lib.hid (mclone_calls w1 mb es clock hes)
  have f10 := (hB1.alloc (.map es clock)).free 10
  have d10 := (hB1.alloc (.map es clock)).cell (o := 10) rfl
  clear hM hM2 hB1 hes
  go_wp2_with fail
  refine HMC.out.mono ?_
  rintro e w2 ⟨rfl, rfl⟩
  go_wp2_with fail
  go_ret
  have hqm : q ≠ w1.heap.size := by have := HB1.out.lt; omega
  have hbb := (hb1.alloc hb1.size (.map es clock)).setCell (p := ⟨q, 10, none⟩) hq' (.map (some w1.heap.size))
  have hP := (HB1.out.alloc (.map es clock)).set 10 (.map (some w1.heap.size))
  simp only [List.setIfInBounds_toArray, List.set_cons_zero, List.set_cons_succ] at hP
  exact ⟨q, w1.heap.size, rfl, ⟨hP, hqm, HL.out.cap0, HL.out.ok, ⟨n, g, HM2.out.other (a := ⟨q, 10, none⟩) (Ne.symm hqm) _, hn, hg⟩, HL.out.small⟩, hq', hb1.size, hbb⟩
theorem step_t0 (cap : Int) (r : List Int) (what k t n : Int) (h : what = 0 ∨ what = 1) : stepL cap r what k t n = stepL cap r what k 0 n := by
  rcases h with rfl | rfl <;> rfl
theorem gives_t0 {p mb : Nat} {cap : Int} {s : Run} {what k t n : Int} {w w' : World} {e : Ending} (hw : what = 0 ∨ what = 1) (h : Gives p mb cap s what k 0 n w e w') : Gives p mb cap s what k t n w e w' := by
  unfold Gives stepR at h ⊢
  rw [step_t0 cap s.row what k t n hw]
  exact h
theorem gives_box {p mb : Nat} {cap : Int} {s : Run} {what k t n : Int} {w w' : World} {e : Ending} (o : Obj) (h : Gives p mb cap s what k t n (w.alloc o) e w') : Gives p mb cap s what k t n w e w' :=
  ⟨h.1, h.2.1, ((Kept.refl _ w).alloc o).trans h.2.2⟩
theorem do_calls (w : World) (p mb : Nat) (cap : Int) (s : Run) (what k t n : Int) (h : LedAt w p mb cap s) (hs : s.hist.length < 100000) :
    Calls Try.prog 15 #[.pointer (some ⟨p, 0, none⟩), .agg #[.int .i64 what, .int .i64 k, .int .i64 t, .int .i64 n]] w (Gives p mb cap s what k t n w) := by
  have HL := Lib.hid (h.below ((Below.refl _ _).alloc (Nat.le_refl _) (.cells #[.int .i64 what, .int .i64 k, .int .i64 t, .int .i64 n] 34)))
  clear h
  by_cases h0 : what = 0
  · subst h0
    have HR := Lib.hid (reserve_calls _ p mb cap s k n HL.out hs)
    clear HL
    go_enter Try.func15, Try.ntmps15
    go_wp2_with fail
    refine HR.out.mono ?_
    rintro e w1 hg
    obtain ⟨rfl, h2, h3⟩ := hg
    go_wp2_with fail
    go_ret
    exact gives_t0 (.inl rfl) (gives_box _ ⟨rfl, h2, h3⟩)
  · by_cases h1 : what = 1
    · subst h1
      have HR := Lib.hid (release_calls _ p mb cap s k n HL.out hs)
      clear HL
      go_enter Try.func15, Try.ntmps15
      go_wp2_with fail
      refine HR.out.mono ?_
      rintro e w1 hg
      obtain ⟨rfl, h2, h3⟩ := hg
      go_wp2_with fail
      go_ret
      exact gives_t0 (.inr rfl) (gives_box _ ⟨rfl, h2, h3⟩)
    · have HR := Lib.hid (shift_calls _ p mb cap s k t n what h0 h1 HL.out hs)
      have e0 : (what == 0) = false := by simpa using h0
      have e1 : (what == 1) = false := by simpa using h1
      clear HL
      go_enter Try.func15, Try.ntmps15
      go_wp2_with fail
      refine HR.out.mono ?_
      rintro e w1 hg
      obtain ⟨rfl, h2, h3⟩ := hg
      go_wp2_with fail
      go_ret
      exact gives_box _ ⟨rfl, h2, h3⟩
end Go.Proofs.Ytchnhmcedmicgaa.Led
