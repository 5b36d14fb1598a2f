/- The law's own small function alive of layer 9: it returns true. -/
import Derived.Test.YtchnhmcedmicgaaLedE
namespace Go.Proofs.Ytchnhmcedmicgaa.Led
open Go.RowKit Go.Proofs.Ytchnhmcedmicgaa.Aid
theorem eq8 (a b : List Int) (ha : a.length = 8) (hb : b.length = 8) (w : World) : (Op.equalIn 10000 24 (.agg (rv a)) (.agg (rv b))).run Try.prog w = .ok (a == b) w := by
  rw [← keL_rv a ha, ← keL_rv b hb]
  exact eq_nums hu8 huI hcI hpI a b ha hb w
def r1 : Run := stepR 10 run0 0 1 0 7
def r2 : Run := stepR 10 r1 2 1 2 3
def r3 : Run := stepR 10 r2 0 0 0 4
def r4 : Run := stepR 10 r3 1 2 0 4
def r5 : Run := stepR 10 r4 1 1 0 4
def v5 : List Int := [0, 0, 3, 0, 0, 0, 0, 0]
theorem a1 : (stepL 10 run0.row 0 1 0 7).1 = 0 := by decide +kernel
theorem a2 : (stepL 10 r1.row 2 1 2 3).1 = 0 := by decide +kernel
theorem a3 : (stepL 10 r2.row 0 0 0 4).1 = 18 := by decide +kernel
theorem a4 : (stepL 10 r3.row 1 2 0 4).1 = 16 := by decide +kernel
theorem a5 : (stepL 10 r4.row 1 1 0 4).1 = 0 := by decide +kernel
theorem a6 : heldV r5.row 2 = 3 ∧ sumTo r5.row 8 = 3 ∧ peakOf r5.hist = 7 ∧ r5.row = v5 ∧ r5.hist.count zero8 = 1 ∧ r5.hist.count v5 = 1 := by decide +kernel
theorem v5_wf : okL .i64 8 v5 := by
  refine ⟨rfl, fun x hx => ?_⟩
  simp only [v5, List.mem_cons, List.not_mem_nil, or_false] at hx
  rcases hx with rfl | rfl | rfl | rfl | rfl | rfl | rfl | rfl <;> decide
set_option maxRecDepth 10000 in
set_option maxHeartbeats 2000000 in
theorem alive_calls (w : World) : Calls Try.prog 12 #[] w fun e w' => e = .returned (.bool true) ∧ Below w.heap.size w w' := by
  obtain ⟨k1, k2, k3, k4, k5, k6⟩ := a6
  have K := Lib.hid (And.intro k1 (And.intro k2 (And.intro k3 (And.intro k4 (And.intro k5 k6)))))
  clear k1 k2 k3 k4 k5 k6
  go_enter Try.func12, Try.ntmps12
  go_wp2_with fail
  refine (new_yes w 10 (by decide) (by decide)).mono ?_
  rintro e w1 ⟨p, mb, rfl, hL, hp, hm, hb⟩
  have HL := Lib.hid hL
  have HB := Lib.hid hb
  have HM := Lib.hid (show ∀ x ∈ [p, mb], w.heap.size ≤ x by simp; exact ⟨hp, hm⟩)
  clear hL hb hp hm
  go_wp2_with fail
  refine (reserve_calls w1 p mb 10 run0 1 7 HL.out (by decide)).mono ?_
  rintro e w2 ⟨he, hL, hk⟩
  rw [a1] at he
  subst he
  have HL2 := Lib.hid (show LedAt w2 p mb 10 r1 from hL)
  have HB2 := Lib.hid (below_kept HB.out hk HB.out.size HM.out)
  clear hL hk HL HB
  go_wp2_with fail
  refine (shift_calls w2 p mb 10 r1 1 2 3 2 (by decide) (by decide) HL2.out (by decide +kernel)).mono ?_
  rintro e w3 ⟨he, hL, hk⟩
  rw [a2] at he
  subst he
  have HL3 := Lib.hid (show LedAt w3 p mb 10 r2 from hL)
  have HB3 := Lib.hid (below_kept HB2.out hk HB2.out.size HM.out)
  clear hL hk HL2 HB2
  go_wp2_with fail
  refine (reserve_calls w3 p mb 10 r2 0 4 HL3.out (by decide +kernel)).mono ?_
  rintro e w4 ⟨he, hL, hk⟩
  rw [a3] at he
  subst he
  have HL4 := Lib.hid (show LedAt w4 p mb 10 r3 from hL)
  have HB4 := Lib.hid (below_kept HB3.out hk HB3.out.size HM.out)
  clear hL hk HL3 HB3
  go_wp2_with fail
  refine (release_calls w4 p mb 10 r3 2 4 HL4.out (by decide +kernel)).mono ?_
  rintro e w5 ⟨he, hL, hk⟩
  rw [a4] at he
  subst he
  have HL5 := Lib.hid (show LedAt w5 p mb 10 r4 from hL)
  have HB5 := Lib.hid (below_kept HB4.out hk HB4.out.size HM.out)
  clear hL hk HL4 HB4
  go_wp2_with fail
  refine (release_calls w5 p mb 10 r4 1 4 HL5.out (by decide +kernel)).mono ?_
  rintro e w6 ⟨he, hL, hk⟩
  rw [a5] at he
  subst he
  have HL6 := Lib.hid (show LedAt w6 p mb 10 r5 from hL)
  have HB6 := Lib.hid (below_kept HB5.out hk HB5.out.size HM.out)
  clear hL hk HL5 HB5
  go_wp2_with fail
  refine (held_calls w6 p mb 10 r5 2 HL6.out).mono ?_
  rw [K.out.1]
  rintro e w7 ⟨rfl, rfl⟩
  go_wp2_with fail
  refine (total_calls w6 p mb 10 r5 HL6.out).mono ?_
  rw [K.out.2.1]
  rintro e w7 ⟨rfl, hb⟩
  have HL7 := Lib.hid (HL6.out.below hb)
  have HB7 := Lib.hid (below_then HB6.out hb)
  clear hb HL6 HB6
  go_wp2_with fail
  refine (left_calls w7 p mb 10 r5 HL7.out).mono ?_
  rw [K.out.2.1]
  rintro e w8 ⟨rfl, hb⟩
  have HL8 := Lib.hid (HL7.out.below hb)
  have HB8 := Lib.hid (below_then HB7.out hb)
  clear hb HL7 HB7
  go_wp2_with fail
  refine (peak_calls w8 p mb 10 r5 HL8.out).mono ?_
  rw [K.out.2.2.1]
  rintro e w9 ⟨rfl, rfl⟩
  go_wp2_with fail
  refine (all_calls w8 p mb 10 r5 HL8.out).mono ?_
  rw [K.out.2.2.2.1]
  rintro e w9 ⟨rfl, hb⟩
  have HL9 := Lib.hid (HL8.out.below hb)
  have HB9 := Lib.hid (below_then HB8.out hb)
  have ek : (Op.equalIn 10000 24 (.agg (rv v5)) (.agg #[.int .i64 0, .int .i64 0, .int .i64 3, .int .i64 0, .int .i64 0, .int .i64 0, .int .i64 0, .int .i64 0])).run Try.prog w9 = .ok true w9 := eq8 v5 v5 rfl rfl w9
  clear hb HL8 HB8
  go_wp2_with fail
  refine (seen_calls w9 p mb 10 r5 zero8 zero8_wf HL9.out).mono ?_
  rw [K.out.2.2.2.2.1]
  rintro e w10 ⟨rfl, hb⟩
  have HL10 := Lib.hid (HL9.out.below hb)
  have HB10 := Lib.hid (below_then HB9.out hb)
  clear hb HL9 HB9 ek
  go_wp2_with fail
  refine (seen_calls w10 p mb 10 r5 v5 v5_wf HL10.out).mono ?_
  rw [K.out.2.2.2.2.2]
  rintro e w11 ⟨rfl, hb⟩
  have HB11 := Lib.hid (below_then HB10.out hb)
  clear hb HL10 HB10
  go_wp2_with fail
  go_ret
  exact ⟨rfl, HB11.out⟩
end Go.Proofs.Ytchnhmcedmicgaa.Led
