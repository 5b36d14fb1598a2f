/- The walk of RingEach at every input. -/
import Derived.Test.YtldlogmjkbhomaaRngY
namespace Go.Proofs.Ytldlogmjkbhomaa.Rng
open Go.ChangeShapes Go.WideShapes Go.RowKit Go.Proofs.Ytldlogmjkbhomaa.Aid
set_option maxHeartbeats 4000000 in
set_option maxRecDepth 8000 in
theorem each_walk (w : World) (it li list : Int) (xs : List R3) (A : Option Addr) (c : Nat) (ms : List R3) (Am : Option Addr) (cm : Nat) (hx : Cs w A xs) (_hl : xs.length ≤ maxLen) (hm : Cs w Am ms) (_hl2 : ms.length ≤ maxLen) :
    Calls Try.prog 8 #[.int .i64 it, .int .i64 li, .int .i64 list, .slice A xs.length c, .slice Am ms.length cm] w fun e w' => e = .returned (.bool true) ∧ Below w.heap.size w w' := by
  have hB0 := (((Below.refl w.heap.size w).alloc (Nat.le_refl _) (.cells #[.int .i64 it] IT)).alloc (by simp) (.cells #[.slice Am ms.length cm] 55)).alloc (by simp; omega) (.cells #[.bool false] BOOL)
  have h1 := ((Blk.new w #[.int .i64 it] IT).alloc (.cells #[.slice Am ms.length cm] 55)).alloc (.cells #[.bool false] BOOL)
  have h2 := (Blk.new (w.alloc (.cells #[.int .i64 it] IT)) #[.slice Am ms.length cm] 55).alloc (.cells #[.bool false] BOOL)
  have h3 := Blk.new ((w.alloc (.cells #[.int .i64 it] IT)).alloc (.cells #[.slice Am ms.length cm] 55)) #[.bool false] BOOL
  simp only [World.size_alloc] at h2 h3
  have HB0 := Lib.hid (And.intro hB0 (And.intro h1 (And.intro h2 h3)))
  have HG := Lib.hid (fun W : World => great_calls W it li A xs.length c)
  clear hB0 h1 h2 h3
  cases hg : (decide (100 < it) || (decide (20 < li) || decide (200 < xs.length))) with
  | true =>
    rw [hg] at HG
    clear _hl hg hx hm _hl2
    go_enter Try.func8, Try.ntmps8
    go_upto_region 1 with fail
    generalize hwA : ((w.alloc (.cells #[.int .i64 it] IT)).alloc (.cells #[.slice Am ms.length cm] 55)).alloc (.cells #[.bool false] BOOL) = wA at HB0 ⊢
    go_wp2_with fail
    refine (alive_calls wA).mono ?_
    rintro e w1 ⟨rfl, hb1⟩
    have hbr := HB0.out.2.2.2.below hb1
    have hbi := HB0.out.2.1.below hb1
    have cr := hbr.cell (o := 0) rfl
    have c0 := hbi.cell (o := 0) rfl
    have fr := hbr.free 0
    have HB1 := Lib.hid (And.intro (below_then HB0.out.1 hb1) hbr)
    clear hbr hbi hb1 HB0
    go_wp2_with fail
    refine (HG.out w1).mono ?_
    rintro e w2 ⟨rfl, rfl⟩
    go_wp2_with fail
    refine bodyPost_ret_by (results_cell1 rfl _ _ (w.heap.size + 1 + 1) true rfl ((HB1.out.2.set 0 (.bool true)).cell (o := 0) rfl)) rfl ?_
    exact ⟨rfl, HB1.out.1.setCell (p := ⟨w.heap.size + 1 + 1, 0, none⟩) (by simp; omega) _⟩
  | false =>
  by_cases hml : 200 < ms.length
  · rw [hg] at HG
    have hml1 : (200 : Int) < (ms.length : Int) := by omega
    clear _hl hg hx hm _hl2 hml
    go_enter Try.func8, Try.ntmps8
    go_upto_region 1 with fail
    generalize hwA : ((w.alloc (.cells #[.int .i64 it] IT)).alloc (.cells #[.slice Am ms.length cm] 55)).alloc (.cells #[.bool false] BOOL) = wA at HB0 ⊢
    go_wp2_with fail
    refine (alive_calls wA).mono ?_
    rintro e w1 ⟨rfl, hb1⟩
    have hbr := HB0.out.2.2.2.below hb1
    have hbi := HB0.out.2.1.below hb1
    have hbm := HB0.out.2.2.1.below hb1
    have cr := hbr.cell (o := 0) rfl
    have c0 := hbi.cell (o := 0) rfl
    have cm0 := hbm.cell (o := 0) rfl
    have fr := hbr.free 0
    have HB1 := Lib.hid (And.intro (below_then HB0.out.1 hb1) hbr)
    clear hbr hbi hbm hb1 HB0
    go_wp2_with fail
    refine (HG.out w1).mono ?_
    rintro e w2 ⟨rfl, rfl⟩
    go_wp2_with fail
    refine bodyPost_ret_by (results_cell1 rfl _ _ (w.heap.size + 1 + 1) true rfl ((HB1.out.2.set 0 (.bool true)).cell (o := 0) rfl)) rfl ?_
    exact ⟨rfl, HB1.out.1.setCell (p := ⟨w.heap.size + 1 + 1, 0, none⟩) (by simp; omega) _⟩
  have hg2 : it ≤ 100 ∧ li ≤ 20 ∧ xs.length ≤ 200 := by
    simp only [Bool.or_eq_false_iff, decide_eq_false_iff_not] at hg
    omega
  obtain ⟨hit, hli, hxl⟩ := hg2
  by_cases hno : it < 0 ∨ 4096 < it ∨ li < 1 ∨ 256 < li
  · rw [hg] at HG
    have HN := Lib.hid hno
    have hml1 : ¬ (200 : Int) < (ms.length : Int) := by omega
    clear hno hit hli hxl _hl hg hx hm _hl2 hml
    go_enter Try.func8, Try.ntmps8
    go_upto_region 1 with fail
    generalize hwA : ((w.alloc (.cells #[.int .i64 it] IT)).alloc (.cells #[.slice Am ms.length cm] 55)).alloc (.cells #[.bool false] BOOL) = wA at HB0 ⊢
    go_wp2_with fail
    refine (alive_calls wA).mono ?_
    rintro e w1 ⟨rfl, hb1⟩
    have hbr := HB0.out.2.2.2.below hb1
    have hbi := HB0.out.2.1.below hb1
    have hbm := HB0.out.2.2.1.below hb1
    have c0 := hbi.cell (o := 0) rfl
    have cm0 := hbm.cell (o := 0) rfl
    have HB1 := Lib.hid (And.intro (below_then HB0.out.1 hb1) (And.intro hbr hbi))
    clear hbr hbi hbm hb1 HB0
    go_wp2_with fail
    refine (HG.out w1).mono ?_
    rintro e w2 ⟨rfl, rfl⟩
    go_wp2_with fail
    refine (new_no w1 it li HN.out).mono ?_
    rintro e w2 ⟨rfl, rfl⟩
    clear c0 cm0
    go_upto_region 6 with fail
    have hB2 := (Below.refl w1.heap.size w1).alloc (Nat.le_refl _) (.cells #[.pointer none] 57)
    have hbp := Blk.new w1 #[.pointer none] 57
    have H2 := Lib.hid (And.intro (below_then HB1.out.1 hB2) (And.intro (HB1.out.2.1.below hB2) (And.intro (HB1.out.2.2.below hB2) hbp)))
    clear hB2 hbp
    generalize w1.alloc (.cells #[.pointer none] 57) = w3 at H2 ⊢
    generalize w1.heap.size = bp at H2 ⊢
    have c0 := H2.out.2.2.1.cell (o := 0) rfl
    go_wp2_with fail
    refine (rnew_no w3 it li HN.out).mono ?_
    rintro e w2 ⟨rfl, rfl⟩
    clear c0
    go_upto_region 7 with fail
    have hB4 := (Below.refl w3.heap.size w3).alloc (Nat.le_refl _) (.cells #[.pointer none] 60)
    have H4 := Lib.hid (And.intro (below_then H2.out.1 hB4) (And.intro (H2.out.2.1.below hB4) (H2.out.2.2.2.below hB4)))
    clear hB4
    generalize w3.alloc (.cells #[.pointer none] 60) = w5 at H4 ⊢
    have cr := H4.out.2.1.cell (o := 0) rfl
    have fr := H4.out.2.1.free 0
    have cp := H4.out.2.2.cell (o := 0) rfl
    go_wp2_with fail
    refine bodyPost_ret_by (results_cell1 rfl _ _ (w.heap.size + 1 + 1) true rfl ((H4.out.2.1.set 0 (.bool true)).cell (o := 0) rfl)) rfl ?_
    exact ⟨rfl, H4.out.1.setCell (p := ⟨w.heap.size + 1 + 1, 0, none⟩) (by simp; omega) _⟩
  obtain ⟨N, rfl⟩ := Int.eq_ofNat_of_zero_le (show 0 ≤ it by omega)
  obtain ⟨L, rfl⟩ := Int.eq_ofNat_of_zero_le (show 0 ≤ li by omega)
  exact each_yes w N L list xs A c ms Am cm hx hm (by omega) (by omega) (by omega) hxl (by omega)
end Go.Proofs.Ytldlogmjkbhomaa.Rng
