/- The walk of RadixStamps. -/
import Derived.Test.YtldlogmjkbhomaaRadI
namespace Go.Proofs.Ytldlogmjkbhomaa.Rad
open Go.RowKit Go.Proofs.Ytldlogmjkbhomaa.Aid Go.Proofs.Ytldlogmjkbhomaa.Pack
/-! ### plain -/
theorem do_no {n : Nat} {s : RS} {c : Cl} (h : doC n s c ≠ 0) : doS n s c = s := by
  unfold doC at h
  unfold doS
  split at h
  · rw [if_pos (by assumption)]
    unfold clrS
    rw [if_neg h]
  · rw [if_neg (by assumption)]
    unfold setS
    rw [if_neg h]
theorem do_yes {n : Nat} {s : RS} {c : Cl} (h : doC n s c = 0) : ∃ a m : Nat, c.page = a ∧ c.n = m ∧ 1 ≤ m ∧ a + m ≤ n ∧ doS n s c = ⟨fillW s.ws a m (if c.clr = true then 0 else wordE c.e (nextS s.st)), nextS s.st⟩ ∧ (c.clr = false → rightE c.e = true) := by
  unfold doC at h
  unfold doS
  by_cases hc : c.clr = true
  · rw [if_pos hc] at h ⊢
    have hi : inR n c.page c.n = true := by
      unfold clrC at h
      split at h
      · assumption
      · cases h
    obtain ⟨a, m, e1, e2, h1, h2⟩ := inR_nat hi
    refine ⟨a, m, e1, e2, h1, h2, ?_, fun e => by rw [hc] at e; cases e⟩
    unfold clrS
    rw [if_pos h, if_pos hc, e1, e2, Int.toNat_natCast, Int.toNat_natCast]
  · rw [if_neg hc] at h ⊢
    have hi : inR n c.page c.n = true ∧ rightE c.e = true := by
      unfold setC at h
      split at h
      · assumption
      · cases h
    obtain ⟨a, m, e1, e2, h1, h2⟩ := inR_nat hi.1
    refine ⟨a, m, e1, e2, h1, h2, ?_, fun _ => hi.2⟩
    unfold setS
    rw [if_pos h, if_neg hc, e1, e2, Int.toNat_natCast, Int.toNat_natCast]
theorem wordE_top {e : En} {t : Int} (h : rightE e = true) : wordE e t / 16777216 = t := by
  unfold rightE at h
  simp only [decide_eq_true_eq] at h
  unfold wordE
  omega
theorem nextS_small {t : Int} (h0 : 0 ≤ t) (h1 : t < 1000) : nextS t = t + 1 := by unfold nextS; omega
theorem fill_out {f : Nat → Int} {a m i : Nat} {x : Int} (h : ¬ (a ≤ i ∧ i < a + m)) : fillW f a m x i = f i := by unfold fillW; rw [if_neg h]
theorem fill_in {f : Nat → Int} {a m i : Nat} {x : Int} (h : a ≤ i ∧ i < a + m) : fillW f a m x i = x := by unfold fillW; rw [if_pos h]
set_option maxHeartbeats 8000000 in
set_option maxRecDepth 4000 in
theorem stamps_walk (w : World) (pages : Int) (xs : List Cl) (A : Option Addr) (c : Nat) (hx : Cls w A xs) (_hl : xs.length ≤ maxLen) :
    Calls Try.prog 7 #[.int .i64 pages, .slice A xs.length c] w fun e w' => e = .returned (.bool true) ∧ Below w.heap.size w w' := by
  have HA := Lib.hid (alive_calls w)
  have HX := Lib.hid hx
  clear hx
  by_cases hp3 : 300 < pages
  · clear _hl
    go_enter Try.func7, Try.ntmps7
    go_wp2_with fail
    refine HA.out.mono ?_
    rintro e w1 ⟨rfl, hb1⟩
    go_wp2_with fail
    go_ret
    exact ⟨rfl, hb1⟩
  by_cases hl60 : (60 : Int) < xs.length
  · go_enter Try.func7, Try.ntmps7
    go_wp2_with fail
    refine HA.out.mono ?_
    rintro e w1 ⟨rfl, hb1⟩
    go_wp2_with fail
    go_ret
    exact ⟨rfl, hb1⟩
  by_cases hp0 : pages < 0
  · go_enter Try.func7, Try.ntmps7
    go_wp2_with fail
    refine HA.out.mono ?_
    rintro e w1 ⟨rfl, hb1⟩
    go_wp2_with fail
    refine (new_no w1 pages (.inl hp0)).mono ?_
    rintro e w2 ⟨rfl, rfl⟩
    go_wp2_with fail
    go_ret
    exact ⟨rfl, hb1⟩
  obtain ⟨n, rfl⟩ := Int.eq_ofNat_of_zero_le (show 0 ≤ pages by omega)
  have hn : n ≤ 300 := by omega
  go_enter Try.func7, Try.ntmps7
  go_wp2_with fail
  refine HA.out.mono ?_
  rintro e w1 ⟨rfl, hb1⟩
  have HB1 := Lib.hid hb1
  clear hb1
  go_wp2_with fail
  refine (new_yes w1 n (by omega)).mono ?_
  rintro e w2 ⟨p, F, rfl, hQ, hF, hb⟩
  have hz1 := HB1.out.size
  have H2 := Lib.hid (show Hold w w2 p F n rs0 [] from ⟨hQ, fun x hx => Nat.le_trans hz1 (hF x (by simp [hx])), bstep HB1.out hb, by simp⟩)
  clear hQ hF hb hz1 HA HB1
  go_wp2_with fail
  go_loopw [7] (fun i wr => ∃ (k : Nat) (s : RS) (F : List Nat), i = .int .i64 k ∧ k ≤ xs.length ∧ Hold w wr p F n s [] ∧ s.st ≤ k) (fun i _ => xs.length - (intOf i).toNat)
  case atStart => exact ⟨0, rs0, F, rfl, by omega, H2.out, by decide⟩
  case round =>
    obtain ⟨k, s, F, rfl, hk, hH, hst⟩ := hrel
    have HH := Lib.hid hH
    clear hH H2
    by_cases hlt : k < xs.length
    · obtain ⟨b0, o0, rfl, hC, hok⟩ := HX.out k hlt
      generalize xs.getD k cl0 = c0 at hC hok
      have HOk := Lib.hid hok
      have hC2 := hC.below HH.out.below
      have k0 := hC2.c0
      have k1 := hC2.c1
      have k2 := hC2.c2
      have k3 := hC2.c3
      have k4 := hC2.c4
      have k5 := hC2.c5
      have k6 := hC2.c6
      have hs0 := HH.out.q.ok.st0
      have hk60 : (k : Int) < 60 := by omega
      clear hC hC2 hok
      obtain ⟨clr, page, m, sp, ve, cl, sa⟩ := c0
      simp only at k0 k1 k2 k3 k4 k5 k6
      have hq := Blk.new wr #[.bool clr, .int .i64 page, .int .i64 m, .int .i64 sp, .int .i64 ve, .int .i64 cl, .int .i64 sa] CT
      have H3 := Lib.hid (HH.out.more (.cells #[.bool clr, .int .i64 page, .int .i64 m, .int .i64 sp, .int .i64 ve, .int .i64 cl, .int .i64 sa] CT))
      clear HH
      go_upto_region 12 with fail
      clear k0 k1 k2 k3 k4 k5 k6
      generalize wr.alloc (.cells #[.bool clr, .int .i64 page, .int .i64 m, .int .i64 sp, .int .i64 ve, .int .i64 cl, .int .i64 sa] CT) = w4 at hq H3 ⊢
      generalize wr.heap.size = q at hq H3 ⊢
      have HQ := Lib.hid hq
      clear hq
      go_wp2_with fail
      refine (clone_calls w4 p F n s H3.out.q).mono ?_
      rintro e w5 ⟨p2, rfl, F2, hR2, hF2, hb5⟩
      have H5 := Lib.hid (show Hold w w5 p F n s (F2 ++ [q]) from (H3.out.on hb5).also fun b hb => ⟨fun hF => by have := H3.out.q.flt _ hF; have := hF2 b hb; omega, hR2.flt b hb⟩)
      have hq5 := HQ.out.below hb5
      have R5 := Lib.hid hR2
      have HDo := Lib.hid (do_calls w5 p F n s ⟨clr, page, m, sp, ve, cl, sa⟩ HOk.out H5.out.q)
      have k0 : w5.cell? ⟨q, 0, none⟩ = some (.bool clr) := hq5.cell rfl
      have k1 : w5.cell? ⟨q, 1, none⟩ = some (.int .i64 page) := hq5.cell rfl
      have k2 : w5.cell? ⟨q, 2, none⟩ = some (.int .i64 m) := hq5.cell rfl
      have k3 : w5.cell? ⟨q, 3, none⟩ = some (.int .i64 sp) := hq5.cell rfl
      have k4 : w5.cell? ⟨q, 4, none⟩ = some (.int .i64 ve) := hq5.cell rfl
      have k5 : w5.cell? ⟨q, 5, none⟩ = some (.int .i64 cl) := hq5.cell rfl
      have k6 : w5.cell? ⟨q, 6, none⟩ = some (.int .i64 sa) := hq5.cell rfl
      have HQ5 := Lib.hid hq5
      clear hR2 hF2 hb5 hq5 H3 HQ
      go_wp2_with fail
      refine HDo.out.mono ?_
      rintro e w6 ⟨rfl, hW⟩
      obtain ⟨F6, hH6, hk6⟩ := H5.out.wrote hW
      have hq6 := HQ5.out.kept hk6 (H5.out.out q (by simp)).1
      have R6 := Lib.hid (R5.out.kept hk6 fun x hx => (H5.out.out x (by simp [hx])).1)
      clear k0 k1 k2 k3 k4 k5 k6
      have k0 : w6.cell? ⟨q, 0, none⟩ = some (.bool clr) := hq6.cell rfl
      have k1 : w6.cell? ⟨q, 1, none⟩ = some (.int .i64 page) := hq6.cell rfl
      have k2 : w6.cell? ⟨q, 2, none⟩ = some (.int .i64 m) := hq6.cell rfl
      have HSo := Lib.hid (stamp_calls w6 p2 F2 n s R6.out)
      have H6b := Lib.hid (show Hold w w6 p F6 n (doS n s ⟨clr, page, m, sp, ve, cl, sa⟩) [] from ⟨hH6.q, hH6.base, hH6.below, by simp⟩)
      clear hW hH6 hk6 hq6 HQ5 R5 H5 HDo
      by_cases hd : doC n s ⟨clr, page, m, sp, ve, cl, sa⟩ = 0
      · obtain ⟨a, m', e1, e2, hm1, ham, hS, hr⟩ := do_yes hd
        simp only at e1 e2 hS hr
        subst e1 e2
        rw [hd]
        rw [hS] at H6b
        rw [nextS_small hs0 (by omega)] at H6b
        have HRt := Lib.hid hr
        clear hS hd hr
        generalize hxx : (if clr = true then 0 else wordE ⟨sp, ve, cl, sa⟩ (s.st + 1)) = xw at H6b
        have HXX := Lib.hid hxx
        have hSm := stamp_calls w6 p F6 n _ H6b.out.q
        simp only at hSm
        have HSm := Lib.hid hSm
        have ha4 : (a : Int) ≤ 300 := by omega
        have hm4 : (m' : Int) ≤ 300 := by omega
        clear hxx hSm
        go_wp2_with (first
          | (go_at_call 19; (with_reducible refine (Calls.mono HSm.out ?_)); rintro e w15 ⟨rfl, rfl⟩)
          | (go_at_call 19; (with_reducible refine (Calls.mono HSo.out ?_)); rintro e w15 ⟨rfl, rfl⟩)
          | fail)
        go_loopw [11] (fun u wr' => ∃ j : Nat, u = .int .i64 j ∧ j ≤ n ∧ w6 = wr') (fun u _ => n - (intOf u).toNat)
        case atStart => exact ⟨0, rfl, by omega, rfl⟩
        case round =>
          obtain ⟨j, rfl, hj, rfl⟩ := hrel
          by_cases hjn : j < n
          · have hwm := rword_calls w6 p F6 n _ (j : Int) H6b.out.q
            have hwo := rword_calls w6 p2 F2 n s (j : Int) R6.out
            rw [wordAt_in hjn] at hwm hwo
            simp only at hwm
            have HWo := Lib.hid hwo
            clear hwo
            by_cases hin : a ≤ j ∧ j < a + m'
            · rw [fill_in hin] at hwm
              have i1 : (a : Int) ≤ (j : Int) := by omega
              have i2 : (j : Int) - (a : Int) < (m' : Int) := by omega
              have i3 : (j : Int) ≤ 300 := by omega
              cases clr with
              | true =>
                have hx0 : xw = 0 := by rw [← HXX.out]; rfl
                rw [hx0] at hwm
                have HWm := Lib.hid hwm
                clear hwm hin hx0
                go_wp2_with (first
                  | (go_at_call 24; (with_reducible refine (Calls.mono HWm.out ?_)); rintro e w15 ⟨rfl, rfl⟩)
                  | fail)
                go_roundw
                case rel => exact ⟨j + 1, by go_num, by omega, trivial⟩
                case measure => simp [intOf]; omega
              | false =>
                have hx0 : xw / 16777216 = s.st + 1 := by rw [← HXX.out]; exact wordE_top (HRt.out rfl)
                have HWm := Lib.hid hwm
                clear hwm hin
                go_wp2_with (first
                  | (go_at_call 24; (with_reducible refine (Calls.mono HWm.out ?_)); rintro e w15 ⟨rfl, rfl⟩)
                  | (go_at_call 19; (with_reducible refine (Calls.mono HSm.out ?_)); rintro e w15 ⟨rfl, rfl⟩)
                  | fail)
                go_roundw
                case rel => exact ⟨j + 1, by go_num, by omega, trivial⟩
                case measure => simp [intOf]; omega
            · rw [fill_out hin] at hwm
              have HWm := Lib.hid hwm
              have i3 : (j : Int) ≤ 300 := by omega
              clear hwm
              by_cases i1 : (a : Int) ≤ (j : Int)
              · have i2 : (m' : Int) ≤ (j : Int) - (a : Int) := by omega
                clear hin
                go_wp2_with (first
                  | (go_at_call 24; (with_reducible refine (Calls.mono HWm.out ?_)); rintro e w15 ⟨rfl, rfl⟩)
                  | (go_at_call 24; (with_reducible refine (Calls.mono HWo.out ?_)); rintro e w15 ⟨rfl, rfl⟩)
                  | fail)
                go_roundw
                case rel => exact ⟨j + 1, by go_num, by omega, trivial⟩
                case measure => simp [intOf]; omega
              · clear hin
                go_wp2_with (first
                  | (go_at_call 24; (with_reducible refine (Calls.mono HWm.out ?_)); rintro e w15 ⟨rfl, rfl⟩)
                  | (go_at_call 24; (with_reducible refine (Calls.mono HWo.out ?_)); rintro e w15 ⟨rfl, rfl⟩)
                  | fail)
                go_roundw
                case rel => exact ⟨j + 1, by go_num, by omega, trivial⟩
                case measure => simp [intOf]; omega
          · obtain rfl : j = n := by omega
            go_wp2_with fail
            go_roundw
            case rel => exact ⟨k + 1, _, F6, by go_num, by omega, H6b.out, by show s.st + 1 ≤ _; omega⟩
            case measure => simp [intOf]; omega
      · rw [do_no hd] at H6b
        have hd1 : (doC n s ⟨clr, page, m, sp, ve, cl, sa⟩ != 0) = true := by simpa using hd
        have hd2 : (doC n s ⟨clr, page, m, sp, ve, cl, sa⟩ == 0) = false := by simpa using hd
        generalize doC n s ⟨clr, page, m, sp, ve, cl, sa⟩ = dc at hd1 hd2 ⊢
        have HSm := Lib.hid (stamp_calls w6 p F6 n s H6b.out.q)
        clear hd
        go_wp2_with (first
          | (go_at_call 19; (with_reducible refine (Calls.mono HSm.out ?_)); rintro e w15 ⟨rfl, rfl⟩)
          | (go_at_call 19; (with_reducible refine (Calls.mono HSo.out ?_)); rintro e w15 ⟨rfl, rfl⟩)
          | fail)
        go_loopw [11] (fun u wr' => ∃ j : Nat, u = .int .i64 j ∧ j ≤ n ∧ w6 = wr') (fun u _ => n - (intOf u).toNat)
        case atStart => exact ⟨0, rfl, by omega, rfl⟩
        case round =>
          obtain ⟨j, rfl, hj, rfl⟩ := hrel
          by_cases hjn : j < n
          · have hwm := rword_calls w6 p F6 n s (j : Int) H6b.out.q
            have hwo := rword_calls w6 p2 F2 n s (j : Int) R6.out
            have HWm := Lib.hid hwm
            have HWo := Lib.hid hwo
            clear hwm hwo
            go_wp2_with (first
              | (go_at_call 24; (with_reducible refine (Calls.mono HWm.out ?_)); rintro e w15 ⟨rfl, rfl⟩)
              | (go_at_call 24; (with_reducible refine (Calls.mono HWo.out ?_)); rintro e w15 ⟨rfl, rfl⟩)
              | fail)
            go_roundw
            case rel => exact ⟨j + 1, by go_num, by omega, trivial⟩
            case measure => simp [intOf]; omega
          · obtain rfl : j = n := by omega
            go_wp2_with fail
            go_roundw
            case rel => exact ⟨k + 1, s, F6, by go_num, by omega, H6b.out, by omega⟩
            case measure => simp [intOf]; omega
    · obtain rfl : k = xs.length := by omega
      go_wp2_with fail
      go_ret
      exact ⟨rfl, HH.out.below⟩
end Go.Proofs.Ytldlogmjkbhomaa.Rad
