/- The walk of RemoteCalls at every input. -/
import Derived.Test.YtchnhmcedmicgaaRemY
import Derived.Test.YtchnhmcedmicgaaRemK
namespace Go.Proofs.Ytchnhmcedmicgaa.Rem
open Go.ChangeShapes Go.WideShapes Go.RowKit Go.Proofs.Ytchnhmcedmicgaa.Aid
set_option maxRecDepth 8000 in
theorem calls_walk (n : Int) (xs : List Q4) (ask other at_ : Int) (A : Option Addr) (ca : Nat) {w : World} (hx : QuadsW w A xs) (_ : xs.length ≤ maxLen) (hka : okI .i64 ask) (hko : okI .i64 other) (hkt : okI .i64 at_) :
    Calls Try.prog 11 #[.int .i64 n, .slice A xs.length ca, .int .i64 ask, .int .i64 other, .int .i64 at_] w fun e w' => e = .returned (.bool true) ∧ Below w.heap.size w w' := by
  by_cases hl : 200 < (xs.length : Int)
  · clear hx hka hko hkt
    have hB0 := ((Below.refl w.heap.size w).alloc (Nat.le_refl _) (.cells #[.int .i64 n] INT)).alloc (by simp) (.cells #[.bool false] BOOL)
    have hbr := Blk.new (w.alloc (.cells #[.int .i64 n] INT)) #[.bool false] BOOL
    have HB0 := Lib.hid (And.intro hB0 hbr)
    clear hB0 hbr
    go_enter Try.func11, Try.ntmps11
    go_upto_region 1 with fail
    generalize hwA : (w.alloc (.cells #[.int .i64 n] INT)).alloc (.cells #[.bool false] BOOL) = wA at HB0 ⊢
    go_wp2_with fail
    refine (alive_calls wA).mono ?_
    rintro e w1 ⟨rfl, hb1⟩
    have hbr := HB0.out.2.below hb1
    rw [World.size_alloc] at hbr
    have cr := hbr.cell (o := 0) rfl
    have fr := hbr.free 0
    have HB1 := Lib.hid (And.intro (below_then HB0.out.1 hb1) hbr)
    clear hbr hb1 HB0
    go_wp2_with fail
    refine bodyPost_ret_by (results_cell1 rfl _ _ (w.heap.size + 1) true rfl ((HB1.out.2.set 0 (.bool true)).cell (o := 0) rfl)) rfl ?_
    exact ⟨rfl, HB1.out.1.setCell (p := ⟨w.heap.size + 1, 0, none⟩) (by simp) _⟩
  · by_cases h0 : 1 ≤ n ∧ n ≤ 64
    · obtain ⟨j, rfl⟩ := Int.eq_ofNat_of_zero_le (show 0 ≤ n by omega)
      exact calls_yes w j A ca xs ask other at_ hx (by omega) (by omega) hl hka hko hkt
    · have h0' := Lib.hid (show n < 1 ∨ 64 < n by omega)
      clear hx h0 hka hko hkt
      have hB0 := ((Below.refl w.heap.size w).alloc (Nat.le_refl _) (.cells #[.int .i64 n] INT)).alloc (by simp) (.cells #[.bool false] BOOL)
      have hbr := Blk.new (w.alloc (.cells #[.int .i64 n] INT)) #[.bool false] BOOL
      have hbw := (Blk.new w #[.int .i64 n] INT).alloc (.cells #[.bool false] BOOL)
      have HB0 := Lib.hid (And.intro hB0 (And.intro hbr hbw))
      clear hB0 hbr hbw
      go_enter Try.func11, Try.ntmps11
      go_upto_region 1 with fail
      generalize hwA : (w.alloc (.cells #[.int .i64 n] INT)).alloc (.cells #[.bool false] BOOL) = wA at HB0 ⊢
      go_wp2_with fail
      refine (alive_calls wA).mono ?_
      rintro e w1 ⟨rfl, hb1⟩
      have hbr := HB0.out.2.1.below hb1
      have hbw := HB0.out.2.2.below hb1
      rw [World.size_alloc] at hbr
      have cr := hbr.cell (o := 0) rfl
      have cw : w1.cell? ⟨w.heap.size, 0, none⟩ = some (.int .i64 n) := hbw.cell (o := 0) rfl
      have fr := hbr.free 0
      have HB1 := Lib.hid (And.intro (below_then HB0.out.1 hb1) hbr)
      clear hbr hbw hb1 HB0
      go_wp2_with fail
      refine (begin_no w1 n h0'.out).mono ?_
      rintro e w2 ⟨rfl, rfl⟩
      go_wp2_with fail
      refine bodyPost_ret_by (results_cell1 rfl _ _ (w.heap.size + 1) true rfl ((HB1.out.2.set 0 (.bool true)).cell (o := 0) rfl)) rfl ?_
      exact ⟨rfl, HB1.out.1.setCell (p := ⟨w.heap.size + 1, 0, none⟩) (by simp) _⟩
end Go.Proofs.Ytchnhmcedmicgaa.Rem
