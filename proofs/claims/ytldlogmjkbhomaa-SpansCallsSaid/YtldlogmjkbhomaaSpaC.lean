/- The contracts of slices.BinarySearchFunc as package spans calls it, and of index and Find. -/
import Derived.Test.YtldlogmjkbhomaaSpaB
set_option linter.unusedSimpArgs false
namespace Go.Proofs.Ytldlogmjkbhomaa.Spa
open Go.RowKit Go.Proofs.Ytldlogmjkbhomaa.Aid
theorem cmp_calls (w : World) (r : Rn) (i : Int) (hr : r.p ≤ 4096) (h0 : 0 ≤ i) (h1 : i ≤ 4096) :
    Calls Try.prog 98 #[.agg #[.int .i64 r.p, .int .i64 r.n, .bool r.t], .int .i64 i] w fun e w' => e = .returned (.int .i64 ((r.p : Nat) - i)) ∧ Below w.heap.size w w' := by
  go_enter Try.func98, Try.ntmps98
  go_wp2
  go_ret
  exact ⟨rfl, (Below.refl _ _).alloc (Nat.le_refl _) _⟩
/-- Where the search ends. -/
def seekT (xs : List Rn) (k i : Nat) : Nat := if (xs.getD k r0).p = i then k else k + 1
theorem seek_iff {P : Nat} {xs : List Rn} (h : OkS P xs) {k i : Nat} (hk : k < xs.length) (h1 : (xs.getD k r0).p ≤ i) (h2 : i < (xs.getD k r0).p + (xs.getD k r0).n) {j : Nat} (hj : j < xs.length) : (xs.getD j r0).p < i ↔ j < seekT xs k i := by
  have hp := pos_n h hj
  unfold seekT
  rcases Nat.lt_trichotomy j k with h3 | h3 | h3
  · have := mono_p h h3 hk
    split <;> omega
  · subst h3
    split <;> omega
  · have := mono_p h h3 hj
    split <;> omega
theorem seek_eq {P : Nat} {xs : List Rn} (h : OkS P xs) {k i : Nat} (h2 : i < (xs.getD k r0).p + (xs.getD k r0).n) (hj : seekT xs k i < xs.length) : (((((xs.getD (seekT xs k i) r0).p : Nat) : Int) - i) == 0) = decide ((xs.getD k r0).p = i) := by
  unfold seekT at hj ⊢
  by_cases e : (xs.getD k r0).p = i
  · rw [if_pos e, e]; simp
  · rw [if_neg e] at hj ⊢
    have := mono_p h (show k < k + 1 by omega) hj
    rw [decide_eq_false e]
    generalize xs.getD (k + 1) r0 = s at *
    simp
    omega
abbrev CmpV : Value := .func (.func 98) #[] #[]
section
variable (w : World) (p : Nat) (F : List Nat) (P : Nat) (xs : List Rn)
set_option maxHeartbeats 1000000 in
theorem bsearch_calls (A : Option Addr) (c : Nat) (k i : Nat) (hok : OkS P xs) (hH : Hdr encR 3 w RT (.slice A xs.length c) xs) (hk : k < xs.length) (h1 : (xs.getD k r0).p ≤ i) (h2 : i < (xs.getD k r0).p + (xs.getD k r0).n) :
    Calls Try.prog 97 #[.slice A xs.length c, .int .i64 i, CmpV] w fun e w' => e = .returned (.tuple #[.int .i64 (seekT xs k i : Nat), .bool (decide ((xs.getD k r0).p = i))]) ∧ Below w.heap.size w w' := by
  obtain ⟨A', c', hv, hat⟩ := Hdr.open3 hH
  injection hv with hv1 _ _
  subst hv1
  have HAt := Lib.hid hat
  have hL := len_le hok
  have HS := Lib.hid (fun j (hj : j < xs.length) => seek_iff hok hk h1 h2 hj)
  have HE := Lib.hid (seek_eq hok h2)
  have hi : i ≤ 4096 := by have := pos_n hok hk; have := hok.n; omega
  have HN := Lib.hid (fun j (hj : j < xs.length) => (show (xs.getD j r0).p ≤ 4096 from by have := pos_n hok hj; have := hok.n; omega))
  have hT : seekT xs k i ≤ xs.length := by unfold seekT; split <;> omega
  have HD := Lib.hid (show ¬ seekT xs k i < xs.length → decide ((xs.getD k r0).p = i) = false from fun hn => by
    unfold seekT at hn
    by_cases e : (xs.getD k r0).p = i
    · rw [if_pos e] at hn; omega
    · exact decide_eq_false e)
  generalize decide ((xs.getD k r0).p = i) = fd at HE HD ⊢
  generalize seekT xs k i = T at HS HE HD hT ⊢
  clear hat hH hk h1 h2 hok
  go_enter Try.func97, Try.ntmps97
  go_wp2
  go_loopw [9, 10] (fun a b wr => ∃ x y : Nat, a = .int .i64 x ∧ b = .int .i64 y ∧ x ≤ T ∧ T ≤ y ∧ y ≤ xs.length ∧ Below w.heap.size w wr) (fun a b _ => (intOf b - intOf a).toNat)
  case atStart => exact ⟨0, xs.length, rfl, rfl, by omega, hT, by omega, Below.refl _ _⟩
  case round =>
    obtain ⟨x, y, rfl, rfl, hx, hy, hyl, hb⟩ := hrel
    have HB := Lib.hid hb
    clear hb
    by_cases hxy : x < y
    · have hs : (((x : Int) + (y : Int)) / 2) = (((x + y) / 2 : Nat) : Int) := by omega
      obtain ⟨h, hh⟩ : ∃ h, h = (x + y) / 2 := ⟨_, rfl⟩
      rw [← hh] at hs
      have hh1 : x ≤ h := by omega
      have hh2 : h < y := by omega
      have hh0 : (0 : Int) ≤ (h : Int) := by omega
      have hh3 : (h : Int) < (xs.length : Int) := by omega
      have Hs := Lib.hid hs
      clear hs hh
      go_upto_region 5 with fail
      rw [Hs.out]
      obtain ⟨g, rfl, k0, k1, k2⟩ := HAt.out h (by omega)
      have hgl : g < w.heap.size := World.block_lt_of_cell? _ _ k0
      have k0' := (HB.out.cell (p := ⟨g, _, none⟩) hgl).trans k0
      have k1' := (HB.out.cell (p := ⟨g, _, none⟩) hgl).trans k1
      have k2' := (HB.out.cell (p := ⟨g, _, none⟩) hgl).trans k2
      have hp := HN.out h (by omega)
      have hsk := HS.out h (by omega)
      have HC := Lib.hid (cmp_calls wr (xs.getD h r0) (i : Int) hp (by omega) (by omega))
      clear k0 k1 k2 hgl
      generalize xs.getD h r0 = r at *
      by_cases hc : r.p < i
      · have hc1 := hsk.1 hc
        have hc2 : ((r.p : Nat) : Int) - (i : Nat) < 0 := by omega
        clear hsk
        go_wp2_with fail
        refine HC.out.mono ?_
        rintro e w1 ⟨rfl, hb1⟩
        go_wp2_with fail
        go_roundw
        case rel => exact ⟨h + 1, y, by go_num, rfl, by omega, hy, hyl, below_then HB.out hb1⟩
        case measure => simp [intOf]; omega
      · have hc1 : T ≤ h := by
          apply Classical.byContradiction
          intro hn
          exact hc (hsk.2 (by omega))
        have hc2 : ¬ ((r.p : Nat) : Int) - (i : Nat) < 0 := by omega
        clear hsk
        go_wp2_with fail
        refine HC.out.mono ?_
        rintro e w1 ⟨rfl, hb1⟩
        go_wp2_with fail
        go_roundw
        case rel => exact ⟨x, h, rfl, rfl, hx, hc1, by omega, below_then HB.out hb1⟩
        case measure => simp [intOf]; omega
    · obtain rfl : x = T := by omega
      by_cases hlt : x < xs.length
      · obtain ⟨g, rfl, k0, k1, k2⟩ := HAt.out x hlt
        have hgl : g < w.heap.size := World.block_lt_of_cell? _ _ k0
        have k0' := (HB.out.cell (p := ⟨g, _, none⟩) hgl).trans k0
        have k1' := (HB.out.cell (p := ⟨g, _, none⟩) hgl).trans k1
        have k2' := (HB.out.cell (p := ⟨g, _, none⟩) hgl).trans k2
        have hp := HN.out x hlt
        have HC := Lib.hid (cmp_calls wr (xs.getD x r0) (i : Int) hp (by omega) (by omega))
        have HE2 := Lib.hid (HE.out hlt)
        have hx0 : (0 : Int) ≤ (x : Int) := by omega
        have hx1 : (x : Int) < (xs.length : Int) := by omega
        clear k0 k1 k2 hgl HE HD
        generalize xs.getD x r0 = r at *
        go_wp2_with fail
        refine HC.out.mono ?_
        rintro e w1 ⟨rfl, hb1⟩
        go_wp2_with fail
        go_ret2
        exact ⟨ret_pair rfl HE2.out, below_then HB.out hb1⟩
      · have HD2 := Lib.hid (HD.out hlt)
        clear HE HD
        go_wp2_with fail
        go_ret2
        exact ⟨ret_pair rfl HD2.out.symm, HB.out⟩
theorem index_calls (k i : Nat) (h : SpAt w p F P xs) (hk : k < xs.length) (h1 : (xs.getD k r0).p ≤ i) (h2 : i < (xs.getD k r0).p + (xs.getD k r0).n) :
    Calls Try.prog 82 #[.pointer (some ⟨p, 0, none⟩), .int .i64 i] w fun e w' => e = .returned (.int .i64 k) ∧ Below w.heap.size w w' := by
  obtain ⟨hd, hP⟩ := h.ex
  have c1 := hP.c1
  obtain ⟨A, c, rfl⟩ := hP.runs.shape
  have HB := Lib.hid (bsearch_calls w P xs A c k i h.ok hP.runs hk h1 h2)
  have hL := len_le h.ok
  have hk4 : k ≤ 4096 := by omega
  unfold seekT at HB
  clear h hP
  by_cases e : (xs.getD k r0).p = i
  · rw [if_pos e, decide_eq_true e] at HB
    clear e h1 h2
    go_enter Try.func82, Try.ntmps82
    go_wp2_with fail
    refine HB.out.mono ?_
    rintro e w1 ⟨rfl, hb⟩
    go_wp2_with fail
    go_ret
    exact ⟨rfl, hb⟩
  · rw [if_neg e, decide_eq_false e] at HB
    clear e h1 h2
    go_enter Try.func82, Try.ntmps82
    go_wp2_with fail
    refine HB.out.mono ?_
    rintro e w1 ⟨rfl, hb⟩
    go_wp2_with fail
    go_ret
    exact ⟨ret_int (by omega), hb⟩
end
end Go.Proofs.Ytldlogmjkbhomaa.Spa
