/- The contracts of the reference's New, and of the law's own row and what. -/
import Derived.Test.YtchnhmcedmicgaaLedS
namespace Go.Proofs.Ytchnhmcedmicgaa.Led
open Go.RowKit Go.Proofs.Ytchnhmcedmicgaa.Aid
theorem rnew_yes (w : World) (cap : Int) (av : List Nat) (h0 : 0 ≤ cap) (h1 : cap ≤ 1099511627776) (hav : ∀ y ∈ av, y < w.heap.size) :
    Calls Try.prog 14 #[.int .i64 cap] w fun e w' => ∃ rp sb, e = .returned (.tuple #[.pointer (some ⟨rp, 0, none⟩), .int .i64 0]) ∧ RefAt w' rp sb 1 av cap [zero8] ∧ w.heap.size ≤ rp ∧ w.heap.size ≤ sb ∧ Below w.heap.size w w' := by
  have HAV := Lib.hid hav
  clear hav
  go_enter Try.func14, Try.ntmps14
  go_wp2_with (at_make; refine make_row _ rfl _ _ 40 rfl 3 Try.underlying40 (.int .i64 0) 8 rfl info_int _ _ 8 rfl rfl (by decide) (by decide) ?_; intro w1 hr1 hlt1 hb1)
  go_ret2
  have hrow := Row.lit w1 [.slice (some ⟨w.heap.size, 0, none⟩) 8 8] 40 (by show 1 ≤ maxLen; decide)
  have hba : Below w.heap.size w (w1.alloc (.cells #[.slice (some ⟨w.heap.size, 0, none⟩) 8 8] 40)) := hb1.alloc hb1.size _
  have hints : Ints w1 .i64 (some ⟨w.heap.size, 0, none⟩) zero8 := by
    have h2 : Row w1 3 w.heap.size 8 (zero8.map (.int .i64)) := hr1
    exact h2.ints
  have hsz : (w1.alloc (.cells #[.slice (some ⟨w.heap.size, 0, none⟩) 8 8] 40)).heap.size = w1.heap.size + 1 := by simp
  have hP := Blk.new (w1.alloc (.cells #[.slice (some ⟨w.heap.size, 0, none⟩) 8 8] 40)) #[.int .i64 cap, .slice (some ⟨w1.heap.size, 0, none⟩) 1 1] 44
  rw [hsz] at hP
  refine ⟨_, w1.heap.size, rfl, ⟨hP, ⟨[.slice (some ⟨w.heap.size, 0, none⟩) 8 8], ?_, rfl, fun k hd hk => ?_⟩, ?_⟩, by have := hba.size; rw [hsz] at this; exact this, hb1.size, hba.alloc hba.size _⟩
  · exact hrow.alloc _
  · match k, hk with
    | 0, hk =>
      simp at hk
      subst hk
      refine ⟨w.heap.size, 8, rfl, by omega, fun hx => ?_, by simp; omega, rfl, (hints.below ((Below.refl _ _).alloc (Nat.le_refl _) _)).below ((Below.refl _ _).alloc (Nat.le_refl _) _)⟩
      rcases List.mem_cons.1 hx with e | hx
      · omega
      · have := HAV.out _ hx; omega
  · intro hx
    rcases List.mem_cons.1 hx with e | hx
    · omega
    · have := HAV.out _ hx; omega
theorem rnew_no (w : World) (cap : Int) (h : cap < 0 ∨ 1099511627776 < cap) :
    Calls Try.prog 14 #[.int .i64 cap] w fun e w' => e = .returned (.tuple #[.pointer none, .int .i64 11]) ∧ w = w' := by
  by_cases h0 : cap < 0
  · clear h
    go_enter Try.func14, Try.ntmps14
    go_wp2
    go_ret2
    exact ⟨rfl, rfl⟩
  · have h1 : 1099511627776 < cap := by omega
    clear h
    go_enter Try.func14, Try.ntmps14
    go_wp2
    go_ret2
    exact ⟨rfl, rfl⟩
def whatV (x : Int) : Int := if x = 0 ∨ x = 1 then x else 2
theorem what_calls (w : World) (what k t n : Int) : Calls Try.prog 17 #[.agg #[.int .i64 what, .int .i64 k, .int .i64 t, .int .i64 n]] w fun e w' => e = .returned (.int .i64 (whatV what)) ∧ Below w.heap.size w w' := by
  have hb := (Below.refl w.heap.size w).alloc (Nat.le_refl _) (.cells #[.int .i64 what, .int .i64 k, .int .i64 t, .int .i64 n] 34)
  unfold whatV
  by_cases h0 : what = 0
  · subst h0
    go_enter Try.func17, Try.ntmps17
    go_wp2
    go_ret
    exact ⟨rfl, hb⟩
  · by_cases h1 : what = 1
    · subst h1
      go_enter Try.func17, Try.ntmps17
      go_wp2
      go_ret
      exact ⟨rfl, hb⟩
    · rw [if_neg (by omega)]
      have e0 : (what == 0) = false := by simpa using h0
      have e1 : (what == 1) = false := by simpa using h1
      go_enter Try.func17, Try.ntmps17
      go_wp2
      go_ret
      exact ⟨rfl, hb⟩
theorem step_what (cap : Int) (r : List Int) (what k t n : Int) : stepL cap r (whatV what) k t n = stepL cap r what k t n := by
  unfold whatV
  by_cases h : what = 0 ∨ what = 1
  · rw [if_pos h]
  · rw [if_neg h]
    unfold stepL
    rw [if_neg (show ¬ (2 : Int) = 0 by decide), if_neg (show ¬ (2 : Int) = 1 by decide), if_neg (show ¬ what = 0 by omega), if_neg (show ¬ what = 1 by omega)]
theorem rdo_calls (w : World) (rp sb c : Nat) (av : List Nat) (cap : Int) (s : Run) (what k t n : Int) (h : RefAt w rp sb c av cap s.hist) (hok : OkS cap s) (hcap : cap ≤ 1099511627776) (hsm : s.hist.length ≤ 100000) (hav : ∀ y ∈ av, y < w.heap.size) :
    Calls Try.prog 16 #[.pointer (some ⟨rp, 0, none⟩), .int .i64 (whatV what), .int .i64 k, .int .i64 t, .int .i64 n] w (RGives rp sb av cap s what k t n w) := by
  have hw : whatV what = 0 ∨ whatV what = 1 ∨ whatV what = 2 := by unfold whatV; split <;> omega
  have key : Calls Try.prog 16 #[.pointer (some ⟨rp, 0, none⟩), .int .i64 (whatV what), .int .i64 k, .int .i64 t, .int .i64 n] w (RGives rp sb av cap s (whatV what) k t n w) := by
    cases hr : (if whatV what = 2 then (right k n && right t n) else right k n)
    · exact rdo_no w rp sb c av cap s _ k t n h hw hr
    · exact rdo_yes w rp sb c av cap s _ k t n h hok hcap hsm hav hw hr
  refine key.mono fun e w' hg => ?_
  unfold RGives stepR at hg ⊢
  rw [step_what] at hg
  exact hg
def rowTo (r : List Int) (k : Nat) : List Int := r.take k ++ List.replicate (8 - k) 0
theorem rowTo_set (r : List Int) (hr : r.length = 8) (k : Nat) (hk : k < 8) : (rv (rowTo r k)).setIfInBounds k (.int .i64 (r.getD k 0)) = rv (rowTo r (k + 1)) := by
  match r, hr with
  | [a, b, c, d, e, f, g, i], _ =>
    rcases (by omega : k = 0 ∨ k = 1 ∨ k = 2 ∨ k = 3 ∨ k = 4 ∨ k = 5 ∨ k = 6 ∨ k = 7) with rfl | rfl | rfl | rfl | rfl | rfl | rfl | rfl <;> rfl
theorem rowTo_end (r : List Int) (hr : r.length = 8) : rowTo r 8 = r := by
  unfold rowTo
  rw [List.take_of_length_le (by omega)]
  simp
theorem rv_zero : rv zero8 = #[.int .i64 0, .int .i64 0, .int .i64 0, .int .i64 0, .int .i64 0, .int .i64 0, .int .i64 0, .int .i64 0] := rfl
set_option maxRecDepth 10000 in
theorem row_calls (w : World) (A : Option Addr) (ca : Nat) (r : List Int) (hr : r.length = 8) (hA : Ints w .i64 A r) :
    Calls Try.prog 19 #[.slice A 8 ca] w fun e w' => e = .returned (.agg (rv r)) ∧ Below w.heap.size w w' := by
  have HA := Lib.hid (fun k (hk : k < 8) => hA k (by rw [hr]; exact hk))
  have HR := Lib.hid hr
  clear hA hr
  have hb0 := (Below.refl w.heap.size w).alloc (Nat.le_refl _) (.cells #[.int .i64 0, .int .i64 0, .int .i64 0, .int .i64 0, .int .i64 0, .int .i64 0, .int .i64 0, .int .i64 0] 24)
  have hB0 := Blk.new w #[.int .i64 0, .int .i64 0, .int .i64 0, .int .i64 0, .int .i64 0, .int .i64 0, .int .i64 0, .int .i64 0] 24
  go_enter Try.func19, Try.ntmps19
  go_upto_region 1 with fail
  generalize w.alloc (.cells #[.int .i64 0, .int .i64 0, .int .i64 0, .int .i64 0, .int .i64 0, .int .i64 0, .int .i64 0, .int .i64 0] 24) = w1 at hb0 hB0 ⊢
  obtain ⟨q0, hq0⟩ : ∃ q, q = w.heap.size := ⟨_, rfl⟩
  rw [← hq0] at hB0 ⊢
  have hb1 := hb0.alloc hb0.size (.cells #[.int .i64 0, .int .i64 0, .int .i64 0, .int .i64 0, .int .i64 0, .int .i64 0, .int .i64 0, .int .i64 0] 24)
  have hB1 := Blk.new w1 #[.int .i64 0, .int .i64 0, .int .i64 0, .int .i64 0, .int .i64 0, .int .i64 0, .int .i64 0, .int .i64 0] 24
  have hB0' := hB0.alloc (.cells #[.int .i64 0, .int .i64 0, .int .i64 0, .int .i64 0, .int .i64 0, .int .i64 0, .int .i64 0, .int .i64 0] 24)
  have hlt := hB0.lt
  have hz1 := hb0.size
  go_upto_region 2 with fail
  generalize w1.alloc (.cells #[.int .i64 0, .int .i64 0, .int .i64 0, .int .i64 0, .int .i64 0, .int .i64 0, .int .i64 0, .int .i64 0] 24) = w2 at hb1 hB1 hB0' ⊢
  obtain ⟨q1, hq1⟩ : ∃ q, q = w1.heap.size := ⟨_, rfl⟩
  rw [← hq1] at hB1 hlt ⊢
  have hz2 : w.heap.size ≤ q1 := by omega
  have HQ := Lib.hid (show w.heap.size ≤ q0 ∧ w.heap.size ≤ q1 ∧ q0 ≠ q1 from by omega)
  have HB0 := Lib.hid hB0'
  have HB1 := Lib.hid hB1
  have Hb := Lib.hid hb1
  clear hB0 hB0' hB1 hb0 hb1 hq0 hq1 hlt hz1 hz2
  go_wp2_with fail
  go_loopw [4] (fun i wr => ∃ k : Nat, k ≤ 8 ∧ i = .int .i64 k ∧ Blk wr q0 #[.int .i64 0, .int .i64 0, .int .i64 0, .int .i64 0, .int .i64 0, .int .i64 0, .int .i64 0, .int .i64 0] 24 ∧ Blk wr q1 (rv (rowTo r k)) 24 ∧ Below w.heap.size w wr) (fun i _ => 8 - (intOf i).toNat)
  case atStart => exact ⟨0, by omega, rfl, HB0.out, by rw [show rowTo r 0 = zero8 by simp [rowTo, zero8]]; exact HB1.out, Hb.out⟩
  case round =>
    obtain ⟨k, hk, rfl, h0, h1, hb⟩ := hrel
    have hk0 : (0 : Int) ≤ (k : Int) := by omega
    by_cases hlt : k < 8
    · obtain ⟨b, o, rfl, hlb, hcell⟩ := HA.out k hlt
      have hcr : wr.cell? ⟨b, o + k, none⟩ = some (.int .i64 (r.getD k 0)) := (hb.cell (p := ⟨b, _, none⟩) hlb).trans hcell
      have x1 := h1.cell (rv_get _ k hlt)
      have f1 := h1.free k
      have hset := rowTo_set r HR.out k hlt
      have hk1 : (k : Int) < 8 := by omega
      have hB2 := h1.set k (.int .i64 (r.getD k 0))
      rw [hset] at hB2
      have HB2 := Lib.hid hB2
      have H0 := Lib.hid h0
      have Hbb := Lib.hid hb
      clear hcell hset hB2 h0 h1 hb
      generalize r.getD k 0 = x at hcr HB2
      go_wp2
      go_roundw
      case rel => exact ⟨k + 1, by omega, by go_num, H0.out.other (a := ⟨q1, k, none⟩) (by have := HQ.out; exact this.2.2) _, HB2.out, Hbb.out.setCell (p := ⟨q1, k, none⟩) (by have := HQ.out; exact this.2.1) _⟩
      case measure => simp [intOf]; omega
    · obtain rfl : k = 8 := by omega
      rw [rowTo_end r HR.out] at h1
      have f0 := h0.free
      have a0 := h0.cell (o := 0) rfl
      have a1 := h0.cell (o := 1) rfl
      have a2 := h0.cell (o := 2) rfl
      have a3 := h0.cell (o := 3) rfl
      have a4 := h0.cell (o := 4) rfl
      have a5 := h0.cell (o := 5) rfl
      have a6 := h0.cell (o := 6) rfl
      have a7 := h0.cell (o := 7) rfl
      unfold rv at h1
      have d0 := h1.cell (o := 0) rfl
      have d1 := h1.cell (o := 1) rfl
      have d2 := h1.cell (o := 2) rfl
      have d3 := h1.cell (o := 3) rfl
      have d4 := h1.cell (o := 4) rfl
      have d5 := h1.cell (o := 5) rfl
      have d6 := h1.cell (o := 6) rfl
      have d7 := h1.cell (o := 7) rfl
      go_wp2_with fail
      have hP := ((((((((h0.set 0 (.int .i64 (g8 r 0))).set 1 (.int .i64 (g8 r 1))).set 2 (.int .i64 (g8 r 2))).set 3 (.int .i64 (g8 r 3))).set 4 (.int .i64 (g8 r 4))).set 5 (.int .i64 (g8 r 5))).set 6 (.int .i64 (g8 r 6))).set 7 (.int .i64 (g8 r 7)))
      simp only [List.setIfInBounds_toArray, List.set_cons_zero, List.set_cons_succ] at hP
      have hbb := ((((((((hb.setCell (p := ⟨q0, 0, none⟩) HQ.out.1 (.int .i64 (g8 r 0))).setCell (p := ⟨q0, 1, none⟩) HQ.out.1 (.int .i64 (g8 r 1))).setCell (p := ⟨q0, 2, none⟩) HQ.out.1 (.int .i64 (g8 r 2))).setCell (p := ⟨q0, 3, none⟩) HQ.out.1 (.int .i64 (g8 r 3))).setCell (p := ⟨q0, 4, none⟩) HQ.out.1 (.int .i64 (g8 r 4))).setCell (p := ⟨q0, 5, none⟩) HQ.out.1 (.int .i64 (g8 r 5))).setCell (p := ⟨q0, 6, none⟩) HQ.out.1 (.int .i64 (g8 r 6))).setCell (p := ⟨q0, 7, none⟩) HQ.out.1 (.int .i64 (g8 r 7)))
      generalize ((((((((wr.setCell ⟨q0, 0, none⟩ (.int .i64 (g8 r 0))).setCell ⟨q0, 1, none⟩ (.int .i64 (g8 r 1))).setCell ⟨q0, 2, none⟩ (.int .i64 (g8 r 2))).setCell ⟨q0, 3, none⟩ (.int .i64 (g8 r 3))).setCell ⟨q0, 4, none⟩ (.int .i64 (g8 r 4))).setCell ⟨q0, 5, none⟩ (.int .i64 (g8 r 5))).setCell ⟨q0, 6, none⟩ (.int .i64 (g8 r 6))).setCell ⟨q0, 7, none⟩ (.int .i64 (g8 r 7))) = w5 at hP hbb ⊢
      have r0 := hP.cell (o := 0) rfl
      have r1 := hP.cell (o := 1) rfl
      have r2 := hP.cell (o := 2) rfl
      have r3 := hP.cell (o := 3) rfl
      have r4 := hP.cell (o := 4) rfl
      have r5 := hP.cell (o := 5) rfl
      have r6 := hP.cell (o := 6) rfl
      have r7 := hP.cell (o := 7) rfl
      try simp only [Exit.inBlock, Exit.then]
      exact bodyPost_ret (v := .agg (rv r)) (by unfold rv; simp [results, Try.results19, go_sem, r0, r1, r2, r3, r4, r5, r6, r7]) rfl ⟨rfl, hbb⟩
end Go.Proofs.Ytchnhmcedmicgaa.Led
