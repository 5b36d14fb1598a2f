/- The contracts of package ledger: Reserve, Release, Shift. -/
import Derived.Test.YtchnhmcedmicgaaLedC
namespace Go.Proofs.Ytchnhmcedmicgaa.Led
open Go.RowKit Go.Proofs.Ytchnhmcedmicgaa.Aid
theorem rv_set (r : List Int) (k : Nat) (n : Int) (hr : r.length = 8) (hk : k < 8) : (rv r).setIfInBounds k (.int .i64 (g8 r k + n)) = rv (add r k n) := by
  match r, hr with
  | [a, b, c, d, e, f, g, i], _ =>
    rcases (by omega : k = 0 ∨ k = 1 ∨ k = 2 ∨ k = 3 ∨ k = 4 ∨ k = 5 ∨ k = 6 ∨ k = 7) with rfl | rfl | rfl | rfl | rfl | rfl | rfl | rfl <;> rfl
/-- What a call of the ledger's gives. -/
def Gives (p mb : Nat) (cap : Int) (s : Run) (what k t n : Int) (w : World) (e : Ending) (w' : World) : Prop :=
  e = .returned (.int .i64 (stepL cap s.row what k t n).1) ∧ LedAt w' p mb cap (stepR cap s what k t n) ∧ Kept [p, mb] w w'
theorem gives_no {p mb : Nat} {cap : Int} {s : Run} {what k t n c : Int} {w w' : World} (h : LedAt w p mb cap s) (hs : stepL cap s.row what k t n = (c, none)) (hb : Below w.heap.size w w') : Gives p mb cap s what k t n w (.returned (.int .i64 c)) w' := by
  refine ⟨by rw [hs], ?_, Kept.of_below hb _⟩
  unfold stepR
  rw [hs]
  exact h.below hb
theorem gives_yes {p mb : Nat} {cap : Int} {s : Run} {what k t n : Int} {r' : List Int} {w w1 w2 : World} (hs : stepL cap s.row what k t n = (0, some r')) (hb : Below w.heap.size w w1) (h : LedAt w2 p mb cap ⟨r', s.hist ++ [r']⟩) (hk : Kept [p, mb] w1 w2) : Gives p mb cap s what k t n w (.returned (.int .i64 0)) w2 := by
  refine ⟨by rw [hs], ?_, (Kept.of_below hb _).trans hk⟩
  unfold stepR
  rw [hs]
  exact h
set_option maxHeartbeats 2000000 in
theorem reserve_calls (w : World) (p mb : Nat) (cap : Int) (s : Run) (k n : Int) (h : LedAt w p mb cap s) (hs : s.hist.length < 100000) :
    Calls Try.prog 47 #[.pointer (some ⟨p, 0, none⟩), .int .i64 k, .int .i64 n] w (Gives p mb cap s 0 k 0 n w) := by
  have HL := Lib.hid h
  have HR := Lib.hid (right_calls k n w)
  have Hs := Lib.hid hs
  clear hs
  cases hr : right k n
  · rw [hr] at HR
    have HST := Lib.hid (show stepL cap s.row 0 k 0 n = (11, none) by unfold stepL; rw [if_pos rfl, if_neg (by rw [hr]; simp)])
    clear h
    go_enter Try.func47, Try.ntmps47
    go_wp2_with fail
    refine HR.out.mono ?_
    rintro e w1 ⟨rfl, rfl⟩
    go_wp2_with fail
    go_ret
    exact gives_no HL.out HST.out (Below.refl _ _)
  · rw [hr] at HR
    obtain ⟨h0, h1, h2⟩ := right_true hr
    obtain ⟨k, rfl⟩ := Int.eq_ofNat_of_zero_le h0
    have HT := Lib.hid (left_calls w p mb cap s h)
    have hok := h.ok.row
    have hsum := add_sum s.row k n hok.len (by omega)
    have hp0 := hok.pos k
    have hgl := get_le hok.pos (show k < 8 by omega)
    have hsl := hok.le
    have hcap := h.cap0
    have Hlen := Lib.hid hok.len
    by_cases hn : cap - sumTo s.row 8 < n
    · have HST := Lib.hid (show stepL cap s.row 0 k 0 n = (18, none) by unfold stepL; rw [if_pos rfl, if_pos hr, if_pos hn])
      clear h hok hsum
      generalize sumTo s.row 8 = t at HT hn hgl hsl
      go_enter Try.func47, Try.ntmps47
      go_wp2_with fail
      refine HR.out.mono ?_
      rintro e w1 ⟨rfl, rfl⟩
      go_wp2_with fail
      refine HT.out.mono ?_
      rintro e w1 ⟨rfl, hb1⟩
      go_wp2_with fail
      go_ret
      exact gives_no HL.out HST.out hb1
    · have HST := Lib.hid (show stepL cap s.row 0 k 0 n = (0, some (add s.row k n)) by unfold stepL; rw [if_pos rfl, if_pos hr, if_neg hn, Int.toNat_natCast])
      have HN := Lib.hid (add_ok hok (show k < 8 by omega) (n := n) (by omega) (by omega))
      have hx : IntKind.i64.wrap (g8 s.row k + n) = g8 s.row k + n := IntWalk.i64_in _ (by unfold g8; omega)
      have hk1 : (k : Int) < 8 := h1
      have hn' : ¬ cap - sumTo s.row 8 < n := hn
      clear h hok hsum hp0 hgl hsl hcap
      have Hrow := Lib.hid (show s.row = s.row from rfl)
      go_enter Try.func47, Try.ntmps47
      go_wp2_with fail
      refine HR.out.mono ?_
      rintro e w1 ⟨rfl, rfl⟩
      go_wp2_with fail
      refine HT.out.mono ?_
      rintro e w1 ⟨rfl, hb1⟩
      obtain ⟨c0, c1, c2, c3, c4, c5, c6, c7, c8, c9, c10⟩ := (HL.out.below hb1).cells
      clear c0 c9 c10
      go_upto_region 6 with fail
      clear c1 c2 c3 c4 c5 c6 c7 c8 hn hn'
      have hB0 := box_row w1 s.row
      have hq : w.heap.size ≤ w1.heap.size := hb1.size
      have hba := hb1.alloc hb1.size (.cells (rv s.row) 24)
      unfold rv at hba
      rw [show (w1.alloc (.cells (rv s.row) 24)) = (w1.alloc (.cells #[.int .i64 (g8 s.row 0), .int .i64 (g8 s.row 1), .int .i64 (g8 s.row 2), .int .i64 (g8 s.row 3), .int .i64 (g8 s.row 4), .int .i64 (g8 s.row 5), .int .i64 (g8 s.row 6), .int .i64 (g8 s.row 7)] 24)) from rfl] at hB0
      generalize w1.alloc (.cells #[.int .i64 (g8 s.row 0), .int .i64 (g8 s.row 1), .int .i64 (g8 s.row 2), .int .i64 (g8 s.row 3), .int .i64 (g8 s.row 4), .int .i64 (g8 s.row 5), .int .i64 (g8 s.row 6), .int .i64 (g8 s.row 7)] 24) = v0 at hB0 hba ⊢
      obtain ⟨q, hqe⟩ : ∃ q, q = w1.heap.size := ⟨_, rfl⟩
      rw [← hqe] at hB0 ⊢
      rw [← hqe] at hq
      clear hqe
      have f0 := hB0.free k
      have x0 := hB0.cell (rv_get s.row k (by omega))
      go_upto_region 7 with fail
      have hB1 := hB0.set k (.int .i64 (g8 s.row k + n))
      rw [rv_set s.row k n (Hlen.out) (by omega)] at hB1
      have hbs0 := hba.setCell (p := ⟨q, k, none⟩) hq (.int .i64 (g8 s.row k + n))
      generalize v0.setCell ⟨q, k, none⟩ (.int .i64 (g8 s.row k + n)) = v1 at hB1 hbs0 ⊢
      clear x0 f0
      have d0 := hB1.cell (o := 0) rfl
      have d1 := hB1.cell (o := 1) rfl
      have d2 := hB1.cell (o := 2) rfl
      have d3 := hB1.cell (o := 3) rfl
      have d4 := hB1.cell (o := 4) rfl
      have d5 := hB1.cell (o := 5) rfl
      have d6 := hB1.cell (o := 6) rfl
      have d7 := hB1.cell (o := 7) rfl
      go_wp2_with fail
      refine (set_calls v1 p mb cap s (add s.row k n) (HL.out.below hbs0) HN.out Hs.out).mono ?_
      rintro e w2 ⟨rfl, hL2, hk2⟩
      have HL2 := Lib.hid hL2
      have HK2 := Lib.hid hk2
      clear hL2 hk2 d0 d1 d2 d3 d4 d5 d6 d7
      go_wp2_with fail
      go_ret
      exact gives_yes HST.out hbs0 HL2.out HK2.out
set_option maxHeartbeats 2000000 in
theorem release_calls (w : World) (p mb : Nat) (cap : Int) (s : Run) (k n : Int) (h : LedAt w p mb cap s) (hs : s.hist.length < 100000) :
    Calls Try.prog 48 #[.pointer (some ⟨p, 0, none⟩), .int .i64 k, .int .i64 n] w (Gives p mb cap s 1 k 0 n w) := by
  have HL := Lib.hid h
  have HR := Lib.hid (right_calls k n w)
  have Hs := Lib.hid hs
  clear hs
  cases hr : right k n
  · rw [hr] at HR
    have HST := Lib.hid (show stepL cap s.row 1 k 0 n = (11, none) by unfold stepL; rw [if_neg (by decide), if_pos rfl, if_neg (by rw [hr]; simp)])
    clear h
    go_enter Try.func48, Try.ntmps48
    go_wp2_with fail
    refine HR.out.mono ?_
    rintro e w1 ⟨rfl, rfl⟩
    go_wp2_with fail
    go_ret
    exact gives_no HL.out HST.out (Below.refl _ _)
  · rw [hr] at HR
    obtain ⟨h0, h1, h2⟩ := right_true hr
    obtain ⟨k, rfl⟩ := Int.eq_ofNat_of_zero_le h0
    have hok := h.ok.row
    have hp0 := hok.pos k
    have hgl := get_le hok.pos (show k < 8 by omega)
    have hsl := hok.le
    have hcap := h.cap0
    have Hlen := Lib.hid hok.len
    have ca := h.amount k (by omega)
    by_cases hn : s.row.getD k 0 < n
    · have HST := Lib.hid (show stepL cap s.row 1 k 0 n = (16, none) by unfold stepL; rw [if_neg (by decide), if_pos rfl, if_pos hr, Int.toNat_natCast, if_pos hn])
      have hn' : g8 s.row k < n := hn
      clear h hok hn
      go_enter Try.func48, Try.ntmps48
      go_wp2_with fail
      refine HR.out.mono ?_
      rintro e w1 ⟨rfl, rfl⟩
      go_wp2_with fail
      go_ret
      exact gives_no HL.out HST.out (Below.refl _ _)
    · have HST := Lib.hid (show stepL cap s.row 1 k 0 n = (0, some (add s.row k (-n))) by unfold stepL; rw [if_neg (by decide), if_pos rfl, if_pos hr, Int.toNat_natCast, if_neg hn])
      have HN := Lib.hid (add_ok hok (show k < 8 by omega) (n := -n) (by omega) (by omega))
      have hx : IntKind.i64.wrap (g8 s.row k - n) = g8 s.row k + -n := by rw [IntWalk.i64_in _ (by unfold g8; omega)]; omega
      have hk1 : (k : Int) < 8 := h1
      have hn' : ¬ g8 s.row k < n := hn
      obtain ⟨c0, c1, c2, c3, c4, c5, c6, c7, c8, c9, c10⟩ := h.cells
      clear h hok hp0 hgl hsl hcap hn c0 c9 c10
      have hb1 := Below.refl w.heap.size w
      go_enter Try.func48, Try.ntmps48
      go_wp2_with fail
      refine HR.out.mono ?_
      rintro e w1 ⟨rfl, rfl⟩
      go_upto_region 6 with fail
      clear c1 c2 c3 c4 c5 c6 c7 c8 hn' ca
      have hB0 := box_row w s.row
      have hba := hb1.alloc hb1.size (.cells (rv s.row) 24)
      unfold rv at hba
      rw [show (w.alloc (.cells (rv s.row) 24)) = (w.alloc (.cells #[.int .i64 (g8 s.row 0), .int .i64 (g8 s.row 1), .int .i64 (g8 s.row 2), .int .i64 (g8 s.row 3), .int .i64 (g8 s.row 4), .int .i64 (g8 s.row 5), .int .i64 (g8 s.row 6), .int .i64 (g8 s.row 7)] 24)) from rfl] at hB0
      generalize w.alloc (.cells #[.int .i64 (g8 s.row 0), .int .i64 (g8 s.row 1), .int .i64 (g8 s.row 2), .int .i64 (g8 s.row 3), .int .i64 (g8 s.row 4), .int .i64 (g8 s.row 5), .int .i64 (g8 s.row 6), .int .i64 (g8 s.row 7)] 24) = v0 at hB0 hba ⊢
      obtain ⟨q, hqe⟩ : ∃ q, q = w.heap.size := ⟨_, rfl⟩
      rw [← hqe] at hB0 ⊢
      have hq : w.heap.size ≤ q := by omega
      clear hqe
      have f0 := hB0.free k
      have x0 := hB0.cell (rv_get s.row k (by omega))
      go_upto_region 7 with fail
      have hB1 := hB0.set k (.int .i64 (g8 s.row k + (-n)))
      rw [rv_set s.row k (-n) (Hlen.out) (by omega)] at hB1
      have hbs0 := hba.setCell (p := ⟨q, k, none⟩) hq (.int .i64 (g8 s.row k + (-n)))
      generalize v0.setCell ⟨q, k, none⟩ (.int .i64 (g8 s.row k + -n)) = v1 at hB1 hbs0 ⊢
      clear x0 f0
      have d0 := hB1.cell (o := 0) rfl
      have d1 := hB1.cell (o := 1) rfl
      have d2 := hB1.cell (o := 2) rfl
      have d3 := hB1.cell (o := 3) rfl
      have d4 := hB1.cell (o := 4) rfl
      have d5 := hB1.cell (o := 5) rfl
      have d6 := hB1.cell (o := 6) rfl
      have d7 := hB1.cell (o := 7) rfl
      go_wp2_with fail
      refine (set_calls v1 p mb cap s (add s.row k (-n)) (HL.out.below hbs0) HN.out Hs.out).mono ?_
      rintro e w2 ⟨rfl, hL2, hk2⟩
      have HL2 := Lib.hid hL2
      have HK2 := Lib.hid hk2
      clear hL2 hk2 d0 d1 d2 d3 d4 d5 d6 d7
      go_wp2_with fail
      go_ret
      exact gives_yes HST.out hbs0 HL2.out HK2.out
set_option maxHeartbeats 4000000 in
theorem shift_calls (w : World) (p mb : Nat) (cap : Int) (s : Run) (k t n what : Int) (hw0 : what ≠ 0) (hw1 : what ≠ 1) (h : LedAt w p mb cap s) (hs : s.hist.length < 100000) :
    Calls Try.prog 68 #[.pointer (some ⟨p, 0, none⟩), .int .i64 k, .int .i64 t, .int .i64 n] w (Gives p mb cap s what k t n w) := by
  have HL := Lib.hid h
  have HR := Lib.hid (right_calls k n w)
  have HR2 := Lib.hid (right_calls t n w)
  have Hs := Lib.hid hs
  clear hs
  cases hr : (right k n && right t n)
  · have HST := Lib.hid (show stepL cap s.row what k t n = (11, none) by unfold stepL; rw [if_neg hw0, if_neg hw1, if_neg (by rw [hr]; simp)])
    clear h
    cases hr1 : right k n
    · rw [hr1] at HR
      go_enter Try.func68, Try.ntmps68
      go_wp2_with fail
      refine HR.out.mono ?_
      rintro e w1 ⟨rfl, rfl⟩
      go_wp2_with fail
      go_ret
      exact gives_no HL.out HST.out (Below.refl _ _)
    · rw [hr1, Bool.true_and] at hr
      rw [hr1] at HR
      rw [hr] at HR2
      go_enter Try.func68, Try.ntmps68
      go_wp2_with fail
      refine HR.out.mono ?_
      rintro e w1 ⟨rfl, rfl⟩
      go_wp2_with fail
      refine HR2.out.mono ?_
      rintro e w1 ⟨rfl, rfl⟩
      go_wp2_with fail
      go_ret
      exact gives_no HL.out HST.out (Below.refl _ _)
  · have hrr := hr
    rw [Bool.and_eq_true] at hrr
    obtain ⟨hra, hrb⟩ := hrr
    rw [hra] at HR
    rw [hrb] at HR2
    obtain ⟨h0, h1, h2⟩ := right_true hra
    obtain ⟨h3, h4, h5⟩ := right_true hrb
    obtain ⟨k, rfl⟩ := Int.eq_ofNat_of_zero_le h0
    obtain ⟨t, rfl⟩ := Int.eq_ofNat_of_zero_le h3
    have hok := h.ok.row
    have hp0 := hok.pos k
    have hgl := get_le hok.pos (show k < 8 by omega)
    have hsl := hok.le
    have hcap := h.cap0
    have Hlen := Lib.hid hok.len
    have ca := h.amount k (by omega)
    by_cases hn : s.row.getD k 0 < n
    · have HST := Lib.hid (show stepL cap s.row what k t n = (16, none) by unfold stepL; rw [if_neg hw0, if_neg hw1, if_pos hr, Int.toNat_natCast, if_pos hn])
      have hn' : g8 s.row k < n := hn
      clear h hok hn hr
      go_enter Try.func68, Try.ntmps68
      go_wp2_with fail
      refine HR.out.mono ?_
      rintro e w1 ⟨rfl, rfl⟩
      go_wp2_with fail
      refine HR2.out.mono ?_
      rintro e w1 ⟨rfl, rfl⟩
      go_wp2_with fail
      go_ret
      exact gives_no HL.out HST.out (Below.refl _ _)
    · have HST := Lib.hid (show stepL cap s.row what k t n = (0, some (add (add s.row k (-n)) t n)) by unfold stepL; rw [if_neg hw0, if_neg hw1, if_pos hr, Int.toNat_natCast, Int.toNat_natCast, if_neg hn])
      have HN := Lib.hid (shift_ok hok (show k < 8 by omega) (show t < 8 by omega) h2 (by omega))
      have hok1 : OkR cap (add s.row k (-n)) := add_ok hok (show k < 8 by omega) (by omega) (by omega)
      have hgt := get_le hok1.pos (show t < 8 by omega)
      have hpt := hok1.pos t
      have hsl1 := hok1.le
      have hx : IntKind.i64.wrap (g8 s.row k - n) = g8 s.row k + -n := by rw [IntWalk.i64_in _ (by unfold g8; omega)]; omega
      have hy : IntKind.i64.wrap (g8 (add s.row k (-n)) t + n) = g8 (add s.row k (-n)) t + n := IntWalk.i64_in _ (by unfold g8; omega)
      have hk1 : (k : Int) < 8 := h1
      have ht1 : (t : Int) < 8 := h4
      have hn' : ¬ g8 s.row k < n := hn
      obtain ⟨c0, c1, c2, c3, c4, c5, c6, c7, c8, c9, c10⟩ := h.cells
      clear h hok hok1 hp0 hgl hsl hcap hn c0 c9 c10 hr hgt hpt hsl1
      have hb1 := Below.refl w.heap.size w
      go_enter Try.func68, Try.ntmps68
      go_wp2_with fail
      refine HR.out.mono ?_
      rintro e w1 ⟨rfl, rfl⟩
      go_wp2_with fail
      refine HR2.out.mono ?_
      rintro e w1 ⟨rfl, rfl⟩
      go_upto_region 6 with fail
      clear c1 c2 c3 c4 c5 c6 c7 c8 hn' ca
      have hB0 := box_row w s.row
      have hba := hb1.alloc hb1.size (.cells (rv s.row) 24)
      unfold rv at hba
      rw [show (w.alloc (.cells (rv s.row) 24)) = (w.alloc (.cells #[.int .i64 (g8 s.row 0), .int .i64 (g8 s.row 1), .int .i64 (g8 s.row 2), .int .i64 (g8 s.row 3), .int .i64 (g8 s.row 4), .int .i64 (g8 s.row 5), .int .i64 (g8 s.row 6), .int .i64 (g8 s.row 7)] 24)) from rfl] at hB0
      generalize w.alloc (.cells #[.int .i64 (g8 s.row 0), .int .i64 (g8 s.row 1), .int .i64 (g8 s.row 2), .int .i64 (g8 s.row 3), .int .i64 (g8 s.row 4), .int .i64 (g8 s.row 5), .int .i64 (g8 s.row 6), .int .i64 (g8 s.row 7)] 24) = v0 at hB0 hba ⊢
      obtain ⟨q, hqe⟩ : ∃ q, q = w.heap.size := ⟨_, rfl⟩
      rw [← hqe] at hB0 ⊢
      have hq : w.heap.size ≤ q := by omega
      clear hqe
      have f0 := hB0.free k
      have x0 := hB0.cell (rv_get s.row k (by omega))
      go_upto_region 7 with fail
      have hB1 := hB0.set k (.int .i64 (g8 s.row k + (-n)))
      rw [rv_set s.row k (-n) (Hlen.out) (by omega)] at hB1
      have hbs0 := hba.setCell (p := ⟨q, k, none⟩) hq (.int .i64 (g8 s.row k + (-n)))
      generalize v0.setCell ⟨q, k, none⟩ (.int .i64 (g8 s.row k + -n)) = v1 at hB1 hbs0 ⊢
      have f1 := hB1.free t
      have x1 := hB1.cell (rv_get (add s.row k (-n)) t (by omega))
      go_upto_region 8 with fail
      have hB2 := hB1.set t (.int .i64 (g8 (add s.row k (-n)) t + n))
      rw [rv_set (add s.row k (-n)) t n (by rw [add_len]; exact Hlen.out) (by omega)] at hB2
      have hbs1 := hbs0.setCell (p := ⟨q, t, none⟩) hq (.int .i64 (g8 (add s.row k (-n)) t + n))
      generalize v1.setCell ⟨q, t, none⟩ (.int .i64 (g8 (add s.row k (-n)) t + n)) = v2 at hB2 hbs1 ⊢
      clear x0 f0 x1 f1
      have d0 := hB2.cell (o := 0) rfl
      have d1 := hB2.cell (o := 1) rfl
      have d2 := hB2.cell (o := 2) rfl
      have d3 := hB2.cell (o := 3) rfl
      have d4 := hB2.cell (o := 4) rfl
      have d5 := hB2.cell (o := 5) rfl
      have d6 := hB2.cell (o := 6) rfl
      have d7 := hB2.cell (o := 7) rfl
      go_wp2_with fail
      refine (set_calls v2 p mb cap s (add (add s.row k (-n)) t n) (HL.out.below hbs1) HN.out Hs.out).mono ?_
      rintro e w2 ⟨rfl, hL2, hk2⟩
      have HL2 := Lib.hid hL2
      have HK2 := Lib.hid hk2
      clear hL2 hk2 d0 d1 d2 d3 d4 d5 d6 d7
      go_wp2_with fail
      go_ret
      exact gives_yes HST.out hbs1 HL2.out HK2.out
end Go.Proofs.Ytchnhmcedmicgaa.Led
