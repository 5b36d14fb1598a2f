/- The law's great and alive (layer 7). -/
import Derived.Test.YtldlogmjkbhomaaRngH
import Derived.Test.YtldlogmjkbhomaaSame
set_option linter.unusedSimpArgs false
namespace Go.Proofs.Ytldlogmjkbhomaa.Rng
open Go.RowKit Go.Proofs.Ytldlogmjkbhomaa.Aid
theorem own_kept {w w' : World} {base : Nat} {e : TypeId} {q : IntKind} {v : Value} {xs : List Int} {F : List Nat} (h : Own w base e q v xs) (k : Kept F w w') (hF : ∀ x ∈ F, x < base) : Own w' base e q v xs := by
  obtain ⟨h1, h2⟩ := h
  refine ⟨h1, ?_⟩
  rcases h2 with h2 | ⟨g, cap, cur, hv, hg, hh, r⟩
  · exact .inl h2
  · refine .inr ⟨g, cap, cur, hv, hg, ?_, r⟩
    have hlt : g < w.heap.size := by
      rcases Nat.lt_or_ge g w.heap.size with hlt | hge
      · exact hlt
      · rw [Array.getElem?_eq_none hge] at hh; cases hh
    rw [k.block g hlt fun hx => by have := hF g hx; omega]
    exact hh
theorem great_calls (w : World) (it li : Int) (A : Option Addr) (n c : Nat) :
    Calls Try.prog 29 #[.int .i64 it, .int .i64 li, .slice A n c] w fun e w' => e = .returned (.bool (decide (100 < it) || (decide (20 < li) || decide (200 < n)))) ∧ w = w' := by
  by_cases h1 : 100 < it
  · rw [decide_eq_true h1, Bool.true_or]
    go_enter Try.func29, Try.ntmps29
    go_wp2
    go_ret
    exact ⟨rfl, rfl⟩
  · rw [decide_eq_false h1, Bool.false_or]
    by_cases h2 : 20 < li
    · rw [decide_eq_true h2, Bool.true_or]
      go_enter Try.func29, Try.ntmps29
      go_wp2
      go_ret
      exact ⟨rfl, rfl⟩
    · rw [decide_eq_false h2, Bool.false_or]
      by_cases h3 : 200 < n
      · rw [decide_eq_true h3]
        have h4 : (200 : Int) < (n : Int) := by omega
        go_enter Try.func29, Try.ntmps29
        go_wp2
        go_ret
        exact ⟨rfl, rfl⟩
      · rw [decide_eq_false h3]
        have h4 : ¬ (200 : Int) < (n : Int) := by omega
        go_enter Try.func29, Try.ntmps29
        go_wp2
        go_ret
        exact ⟨rfl, rfl⟩
/-- Lists of the call's own. -/
structure Hold (w0 w : World) (p : Nat) (F : List Nat) (N L : Nat) (s : RgS) : Prop where
  q : RngAt w p F N L s
  base : ∀ x ∈ F, w0.heap.size ≤ x
  below : Below w0.heap.size w0 w
theorem Hold.wrote {w0 w w' : World} {p N L : Nat} {F : List Nat} {s s' : RgS} (h : Hold w0 w p F N L s) (k : Wrote p F N L s' w w') : Hold w0 w' p F N L s' := ⟨k.1, h.base, below_kept h.below k.2 h.below.size h.base⟩
theorem Hold.on {w0 w w' : World} {p N L : Nat} {F : List Nat} {s : RgS} (h : Hold w0 w p F N L s) (k : Below w.heap.size w w') : Hold w0 w' p F N L s := ⟨h.q.below k, h.base, h.below.trans (k.mono h.below.size)⟩
def a0 : RgS := fun _ => []
def a1 : RgS := putS a0 8 2 0 3 true
def a2 : RgS := putS a1 8 2 0 5 true
def a3 : RgS := putS a2 8 2 0 1 false
def a4 : RgS := putS a3 8 2 1 5 false
def a5 : RgS := popS a4 8 2 0
theorem v1 : putV a0 8 2 0 3 = 0 := by decide +kernel
theorem v2 : putV a1 8 2 0 5 = 0 := by decide +kernel
theorem v3 : putV a2 8 2 0 1 = 0 := by decide +kernel
theorem v4 : putV a3 8 2 1 5 = 15 := by decide +kernel
theorem l4 : lsI a4 2 0 = [5, 3, 1] := by decide +kernel
theorem n5 : (lkI a5 8 2 3).c = 1 := by decide +kernel
theorem i5 : (lkI a5 8 2 1).a = 0 := by decide +kernel
theorem j5 : (lkI a5 8 2 5).a = -1 := by decide +kernel
theorem l5 : lsI a5 2 0 = [3, 1] := by decide +kernel
theorem m5 : lsI a5 2 1 = [] := by decide +kernel
theorem r5 : remV a5 8 2 5 = 16 := by decide +kernel
set_option maxHeartbeats 1000000 in
set_option maxRecDepth 8000 in
theorem alive_calls (w : World) : Calls Try.prog 28 #[] w fun e w' => e = .returned (.bool true) ∧ Below w.heap.size w w' := by
  go_enter Try.func28, Try.ntmps28
  go_wp2_with fail
  refine (new_yes w 8 2 (by decide) (by decide) (by decide)).mono ?_
  rintro e w1 ⟨p, F, rfl, hQ, hF, hb⟩
  have H1 := Lib.hid (show Hold w w1 p F 8 2 a0 from ⟨hQ, hF, hb⟩)
  clear hQ hF hb
  go_wp2_with fail
  refine (push_calls w1 p F 8 2 a0 0 3 H1.out.q).mono ?_
  rintro e w2 ⟨he, hW⟩
  rw [v1] at he
  subst he
  have H2 := Lib.hid (show Hold w w2 p F 8 2 a1 from H1.out.wrote hW)
  clear hW H1
  go_wp2_with fail
  refine (push_calls w2 p F 8 2 a1 0 5 H2.out.q).mono ?_
  rintro e w3 ⟨he, hW⟩
  rw [v2] at he
  subst he
  have H3 := Lib.hid (show Hold w w3 p F 8 2 a2 from H2.out.wrote hW)
  clear hW H2
  go_wp2_with fail
  refine (append_calls w3 p F 8 2 a2 0 1 H3.out.q).mono ?_
  rintro e w4 ⟨he, hW⟩
  rw [v3] at he
  subst he
  have H4 := Lib.hid (show Hold w w4 p F 8 2 a3 from H3.out.wrote hW)
  clear hW H3
  go_wp2_with fail
  refine (append_calls w4 p F 8 2 a3 1 5 H4.out.q).mono ?_
  rintro e w5 ⟨he, hW⟩
  rw [v4] at he
  subst he
  have H5 := Lib.hid (show Hold w w5 p F 8 2 a4 from H4.out.wrote hW)
  clear hW H4
  go_wp2_with fail
  refine (all_calls w5 p F 8 2 a4 0 H5.out.q).mono ?_
  rintro e w6 ⟨⟨v, rfl, hO⟩, hb6⟩
  rw [l4] at hO
  have H6 := Lib.hid (H5.out.on hb6)
  have HFl := Lib.hid (H5.out.q.flt)
  have HO := Lib.hid (show Own w6 w5.heap.size 3 .i64 v [5, 3, 1] from hO)
  clear hO hb6
  go_wp2_with fail
  refine (pop_calls w6 p F 8 2 a4 0 H6.out.q).mono ?_
  rintro e w7 ⟨he, hW⟩
  rw [l4] at he
  rw [show (headI [5, 3, 1] : Int) = 5 from rfl, show ((5 : Int) != -1) = true from rfl] at he
  subst he
  have H7 := Lib.hid (show Hold w w7 p F 8 2 a5 from H6.out.wrote hW)
  obtain ⟨A1, c1, hv, hI7⟩ := (own_kept HO.out hW.2 HFl.out).shape
  obtain rfl : v = .slice A1 3 c1 := hv
  have HI7 := Lib.hid hI7
  clear hW H5 H6 hI7 HO HFl
  go_upto_region 10 with fail
  have hi0 := Row.lit w7 [.int .i64 5, .int .i64 3, .int .i64 1] 3 (by show 3 ≤ maxLen; decide)
  have hy : Ints (w7.alloc (.cells #[.int .i64 5, .int .i64 3, .int .i64 1] 3)) .i64 (some ⟨w7.heap.size, 0, none⟩) [5, 3, 1] := hi0.ints
  have hb8 := (Below.refl w7.heap.size w7).alloc (Nat.le_refl _) (.cells #[.int .i64 5, .int .i64 3, .int .i64 1] 3)
  have CI := Lib.hid (same_ints [5, 3, 1] [5, 3, 1] A1 (some ⟨w7.heap.size, 0, none⟩) c1 3 _ (HI7.out.below hb8) hy (by decide))
  rw [show (([5, 3, 1] : List Int) == [5, 3, 1]) = true by decide] at CI
  have H8 := Lib.hid (fun nq => H7.out.on (below_drewN hb8 nq))
  clear hi0 hy hb8 HI7
  go_wp2_with (first
    | (go_at_call 39; refine CI.out.mono ?_; rintro e w9 ⟨rfl, nq, rfl⟩; have HC := Lib.hid (H8.out nq); clear CI)
    | (go_at_call 36; (with_reducible refine (Calls.mono (next_calls _ p F 8 2 a5 3 HC.out.q) ?_)); rintro e w10 ⟨he, rfl⟩; rw [n5] at he; subst he)
    | (go_at_call 35; (with_reducible refine (Calls.mono (in_calls _ p F 8 2 a5 1 HC.out.q) ?_)); rintro e w11 ⟨he, rfl⟩; rw [i5] at he; subst he)
    | (go_at_call 35; (with_reducible refine (Calls.mono (in_calls _ p F 8 2 a5 5 HC.out.q) ?_)); rintro e w12 ⟨he, rfl⟩; rw [j5] at he; subst he)
    | (go_at_call 38; (with_reducible refine (Calls.mono (len_calls _ p F 8 2 a5 0 HC.out.q) ?_)); rintro e w13 ⟨he, rfl⟩; rw [l5] at he; subst he)
    | (go_at_call 37; (with_reducible refine (Calls.mono (first_calls _ p F 8 2 a5 0 HC.out.q) ?_)); rintro e w14 ⟨he, rfl⟩; rw [l5] at he; subst he)
    | (go_at_call 37; (with_reducible refine (Calls.mono (first_calls _ p F 8 2 a5 1 HC.out.q) ?_)); rintro e w15 ⟨he, rfl⟩; rw [m5] at he; subst he)
    | (go_at_call 69; (with_reducible refine (Calls.mono (remove_calls _ p F 8 2 a5 5 HC.out.q) ?_)); rintro e w16 ⟨he, hW16⟩; rw [r5] at he; subst he; have HZ := Lib.hid (HC.out.wrote hW16); clear hW16)
    | fail)
  go_ret
  exact ⟨rfl, HZ.out.below⟩
end Go.Proofs.Ytldlogmjkbhomaa.Rng
