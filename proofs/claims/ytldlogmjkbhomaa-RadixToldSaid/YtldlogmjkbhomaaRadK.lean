/- The walk of RadixTold. -/
import Derived.Test.YtldlogmjkbhomaaRadI
namespace Go.Proofs.Ytldlogmjkbhomaa.Rad
open Go.RowKit Go.Proofs.Ytldlogmjkbhomaa.Aid Go.Proofs.Ytldlogmjkbhomaa.Pack
/-! ### plain -/
theorem leaves_zero {f : Nat → Int} (h : ∀ i, f i = 0) (L : Nat) : leavesW f L = 0 := by
  unfold leavesW
  rw [List.length_eq_zero_iff, List.filter_eq_nil_iff]
  intro k _
  rw [cntW_zero.2 fun j _ => h _]
  simp
theorem fillW_in {f : Nat → Int} {a m i : Nat} {x : Int} (h : a ≤ i ∧ i < a + m) : fillW f a m x i = x := by unfold fillW; rw [if_pos h]
theorem fillW_out {f : Nat → Int} {a m i : Nat} {x : Int} (h : ¬ (a ≤ i ∧ i < a + m)) : fillW f a m x i = f i := by unfold fillW; rw [if_neg h]
theorem count_fill {a m : Nat} {x : Int} {u v : Int} (h : hasE x u v = true) : ∀ n, countW (fillW rs0.ws a m x) n u v = if n ≤ a then 0 else if n ≤ a + m then n - a else m := by
  intro n
  induction n with
  | zero => rfl
  | succ n ih =>
    rw [countW_succ, ih]
    by_cases hi : a ≤ n ∧ n < a + m
    · rw [fillW_in hi, h]
      have e1 : ¬ n + 1 ≤ a := by omega
      have e2 : n + 1 ≤ a + m := by omega
      rw [if_neg e1, if_pos e2]
      by_cases e3 : n ≤ a
      · rw [if_pos e3]
        simp only [Bool.toNat_true]
        omega
      · rw [if_neg e3, if_pos (by omega)]
        simp only [Bool.toNat_true]
        omega
    · rw [fillW_out hi]
      have h0 : hasE (rs0.ws n) u v = false := rfl
      rw [h0]
      by_cases e1 : n + 1 ≤ a
      · rw [if_pos e1, if_pos (by omega)]
        rfl
      · rw [if_neg e1]
        have e2 : ¬ n ≤ a ∨ n = a := by omega
        by_cases e3 : n + 1 ≤ a + m
        · omega
        · rw [if_neg e3]
          by_cases e4 : n ≤ a
          · rw [if_pos e4]
            simp only [Bool.toNat_false]
            omega
          · rw [if_neg e4]
            by_cases e5 : n ≤ a + m
            · rw [if_pos e5]
              simp only [Bool.toNat_false]
              omega
            · rw [if_neg e5]
              rfl
theorem hasE_word {e : En} {t : Int} (h : rightE e = true) : hasE (wordE e t) e.ver e.sta = true := by
  unfold hasE
  rw [entW_word h]
  have := wordE_ne (e := e) (t := t)
  simp [this]
theorem getE_word {e : En} {t : Int} (h : rightE e = true) : getE (wordE e t) = .returned (.tuple #[.agg (encE e).toArray, .bool true]) := by
  unfold getE
  rw [if_neg wordE_ne, entW_word h]
theorem setC_yes {pages : Nat} {page n : Int} {e : En} (h : setC pages page n e = 0) : inR pages page n = true ∧ rightE e = true := by
  unfold setC at h
  split at h
  · assumption
  · cases h
theorem setC_or (pages : Nat) (page n : Int) (e : En) : setC pages page n e = 0 ∨ setC pages page n e = 11 := by
  unfold setC
  split
  · exact .inl rfl
  · exact .inr rfl
def told1 (a m : Nat) (x : En) : RS := ⟨fillW rs0.ws a m (wordE x 1), 1⟩
def told2 (a m : Nat) (x y : En) : RS := if rightE y = true then ⟨fillW (told1 a m x).ws a 1 (wordE y 2), 2⟩ else told1 a m x
def told3 (a m : Nat) (x y : En) : RS := ⟨fillW (told2 a m x y).ws a m 0, nextS (told2 a m x y).st⟩
section
variable {pages a m : Nat} {x y : En} (h : a + m ≤ pages) (h1 : 1 ≤ m)
include h h1
theorem inR_am : inR pages a m = true := by unfold inR; rw [decide_eq_true_eq]; omega
theorem inR_a1 : inR pages a 1 = true := by unfold inR; rw [decide_eq_true_eq]; omega
theorem told1_set (hx : rightE x = true) : setS pages rs0 a m x = told1 a m x := by
  have hc : setC pages a m x = 0 := by unfold setC; rw [if_pos ⟨inR_am h h1, hx⟩]
  unfold setS
  rw [if_pos hc, Int.toNat_natCast, Int.toNat_natCast]
  rfl
theorem told1_at : wordAt pages (told1 a m x) a = wordE x 1 := by
  rw [wordAt_in (by omega)]
  exact fillW_in (by omega)
theorem told1_last : wordAt pages (told1 a m x) ((a : Int) + m - 1) = wordE x 1 := by
  rw [show (a : Int) + m - 1 = ((a + m - 1 : Nat) : Int) by omega, wordAt_in (by omega)]
  exact fillW_in (by omega)
theorem told1_count (hx : rightE x = true) : countW (told1 a m x).ws pages x.ver x.sta = m := by
  unfold told1
  rw [count_fill (hasE_word hx), if_neg (by omega)]
  split <;> omega
theorem told2_set : setS pages (told1 a m x) a 1 y = told2 a m x y := by
  unfold told2
  cases hy : rightE y with
  | true =>
    have hc : setC pages a 1 y = 0 := by unfold setC; rw [if_pos ⟨inR_a1 h h1, hy⟩]
    unfold setS
    rw [if_pos hc, Int.toNat_natCast]
    rfl
  | false =>
    have hc : setC pages a 1 y = 11 := by unfold setC; rw [if_neg (by simp [hy])]
    unfold setS
    rw [if_neg (by rw [hc]; decide), if_neg (by simp)]
theorem told2_code : setC pages a 1 y = if rightE y = true then 0 else 11 := by
  unfold setC
  rw [inR_a1 h h1]
  simp
theorem told2_at (hy : rightE y = true) : wordAt pages (told2 a m x y) a = wordE y 2 := by
  rw [wordAt_in (by omega)]
  unfold told2
  rw [if_pos hy]
  exact fillW_in (by omega)
omit h h1 in
theorem told2_nz {k : Nat} (hk : k < m) : (told2 a m x y).ws (a + k) ≠ 0 := by
  have hx1 : (told1 a m x).ws (a + k) ≠ 0 := by
    show fillW rs0.ws a m (wordE x 1) (a + k) ≠ 0
    rw [fillW_in (by omega)]
    exact wordE_ne
  unfold told2
  split
  · show fillW (told1 a m x).ws a 1 (wordE y 2) (a + k) ≠ 0
    by_cases e : k = 0
    · rw [fillW_in (by omega)]
      exact wordE_ne
    · rw [fillW_out (by omega)]
      exact hx1
  · exact hx1
theorem told3_code : clrC pages (told2 a m x y) a m = 0 := by
  unfold clrC
  rw [if_pos (inR_am h h1), Int.toNat_natCast, Int.toNat_natCast, if_pos (allNZ_true fun k hk => told2_nz hk)]
theorem told3_set : clrS pages (told2 a m x y) a m = told3 a m x y := by
  unfold clrS
  rw [if_pos (told3_code h h1), Int.toNat_natCast, Int.toNat_natCast]
  rfl
omit h in
theorem told3_zero (i : Nat) : (told3 a m x y).ws i = 0 := by
  show fillW (told2 a m x y).ws a m 0 i = 0
  by_cases hi : a ≤ i ∧ i < a + m
  · exact fillW_in hi
  · rw [fillW_out hi]
    unfold told2
    split
    · show fillW (told1 a m x).ws a 1 (wordE y 2) i = 0
      rw [fillW_out (by omega)]
      exact fillW_out hi
    · exact fillW_out hi
theorem told4_code : clrC pages (told3 a m x y) a m = 16 := by
  unfold clrC
  rw [if_pos (inR_am h h1), Int.toNat_natCast, Int.toNat_natCast, if_neg]
  rw [allNZ_false (k := 0) (by omega) (told3_zero h1 _)]
  simp
end
set_option maxHeartbeats 8000000 in
set_option maxRecDepth 4000 in
theorem told_walk (w : World) (pages page n : Int) (x y : En) (hx64 : En64 x) (hy64 : En64 y) :
    Calls Try.prog 4 #[.int .i64 pages, .int .i64 page, .int .i64 n, .agg (encE x).toArray, .agg (encE y).toArray] w fun e w' => e = .returned (.bool true) ∧ Below w.heap.size w w' := by
  have HX := Lib.hid hx64
  have HY := Lib.hid hy64
  have HC := Lib.hid (setC_or pages.toNat page n x)
  obtain ⟨x0, x1, x2, x3⟩ := x
  obtain ⟨y0, y1, y2, y3⟩ := y
  clear hx64 hy64
  unfold encE
  simp only
  have hbb := balloc (balloc (Below.refl w.heap.size w) (.cells #[.int .i64 x0, .int .i64 x1, .int .i64 x2, .int .i64 x3] ET)) (.cells #[.int .i64 y0, .int .i64 y1, .int .i64 y2, .int .i64 y3] ET)
  have hq1 := (Blk.new w #[.int .i64 x0, .int .i64 x1, .int .i64 x2, .int .i64 x3] ET).alloc (.cells #[.int .i64 y0, .int .i64 y1, .int .i64 y2, .int .i64 y3] ET)
  have hq2 := Blk.new (w.alloc (.cells #[.int .i64 x0, .int .i64 x1, .int .i64 x2, .int .i64 x3] ET)) #[.int .i64 y0, .int .i64 y1, .int .i64 y2, .int .i64 y3] ET
  have hz : (w.alloc (.cells #[.int .i64 x0, .int .i64 x1, .int .i64 x2, .int .i64 x3] ET)).heap.size = w.heap.size + 1 := by simp
  rw [hz] at hq2
  have HA := Lib.hid (alive_calls ((w.alloc (.cells #[.int .i64 x0, .int .i64 x1, .int .i64 x2, .int .i64 x3] ET)).alloc (.cells #[.int .i64 y0, .int .i64 y1, .int .i64 y2, .int .i64 y3] ET)))
  clear hz
  go_enter Try.func4, Try.ntmps4
  go_upto_region 1 with fail
  generalize (w.alloc (.cells #[.int .i64 x0, .int .i64 x1, .int .i64 x2, .int .i64 x3] ET)).alloc (.cells #[.int .i64 y0, .int .i64 y1, .int .i64 y2, .int .i64 y3] ET) = wb at hbb hq1 hq2 HA ⊢
  have HBB := Lib.hid hbb
  have HQ1 := Lib.hid hq1
  have HQ2 := Lib.hid hq2
  clear hbb hq1 hq2
  generalize w.heap.size + 1 = b2 at HQ2 ⊢
  generalize hb1 : w.heap.size = b1 at HQ1 ⊢
  have HB1 := Lib.hid hb1
  clear hb1
  go_wp2_with fail
  refine HA.out.mono ?_
  rintro e w1 ⟨rfl, hb1⟩
  have Hb1 := Lib.hid hb1
  clear hb1 HA
  by_cases hp3 : 4096 < pages
  · go_wp2_with fail
    go_ret
    exact ⟨rfl, bstep HBB.out Hb1.out⟩
  by_cases hp0 : pages < 0
  · go_wp2_with fail
    refine (new_no w1 pages (.inl hp0)).mono ?_
    rintro e w2 ⟨rfl, rfl⟩
    go_wp2_with fail
    go_ret
    exact ⟨rfl, bstep HBB.out Hb1.out⟩
  obtain ⟨p4, rfl⟩ := Int.eq_ofNat_of_zero_le (show 0 ≤ pages by omega)
  rw [Int.toNat_natCast] at HC
  have hn : p4 ≤ 4096 := by omega
  go_wp2_with fail
  refine (new_yes w1 p4 hn).mono ?_
  rintro e w2 ⟨p, F, rfl, hQ, hF, hb⟩
  have hz1 := Hb1.out.size
  have H2 := Lib.hid (show Hold wb w2 p F p4 rs0 [] from ⟨hQ, fun z hz => Nat.le_trans hz1 (hF z (by simp [hz])), bstep Hb1.out hb, by simp⟩)
  clear hQ hF hb hz1 Hb1
  have X2 := Lib.hid (HQ1.out.below H2.out.below)
  have c0 := X2.out.cell (o := 0) rfl
  have c1 := X2.out.cell (o := 1) rfl
  have c2 := X2.out.cell (o := 2) rfl
  have c3 := X2.out.cell (o := 3) rfl
  have hS := set_calls w2 p F p4 rs0 page n ⟨x0, x1, x2, x3⟩ HX.out H2.out.q
  rcases HC.out with hc | hc
  · obtain ⟨hi, hr⟩ := setC_yes hc
    obtain ⟨a, m, rfl, rfl, hm1, ham⟩ := inR_nat hi
    rw [hc, told1_set ham hm1 hr] at hS
    have HS := Lib.hid hS
    have HR := Lib.hid hr
    have hbig : (a : Int) + (m : Int) ≤ 4096 := by omega
    have hm1' : (1 : Int) ≤ (m : Int) := by omega
    clear hS hc hi hr HC
    go_wp2_with fail
    refine HS.out.mono ?_
    rintro e w3 ⟨rfl, hW⟩
    obtain ⟨F3, hH, _⟩ := H2.out.wrote hW
    have H3 := Lib.hid hH
    have hG1 := get_calls w3 p F3 p4 _ (a : Int) hH.q
    rw [told1_at ham hm1, getE_word HR.out] at hG1
    unfold encE at hG1
    simp only at hG1
    have HG1 := Lib.hid hG1
    clear hW hH H2 HS hG1 c0 c1 c2 c3 X2
    go_wp2_with fail
    refine HG1.out.mono ?_
    rintro e w4 ⟨rfl, hb4⟩
    have hz := Blk.new w4 #[.int .i64 x0, .int .i64 x1, .int .i64 x2, .int .i64 x3] ET
    have H4 := Lib.hid ((H3.out.on hb4).more (.cells #[.int .i64 x0, .int .i64 x1, .int .i64 x2, .int .i64 x3] ET))
    have hzl : wb.heap.size ≤ w4.heap.size := (H3.out.on hb4).below.size
    clear hb4 HG1 H3
    go_upto_region 11 with fail
    generalize w4.alloc (.cells #[.int .i64 x0, .int .i64 x1, .int .i64 x2, .int .i64 x3] ET) = w5 at hz H4 ⊢
    generalize w4.heap.size = z1 at hz H4 hzl ⊢
    have Z1 := Lib.hid hz
    have ZF := Lib.hid hzl
    have hG2 := get_calls w5 p F3 p4 _ ((a : Int) + m - 1) H4.out.q
    rw [told1_last ham hm1, getE_word HR.out] at hG2
    unfold encE at hG2
    simp only at hG2
    have HG2 := Lib.hid hG2
    clear hz hzl hG2
    go_wp2_with fail
    refine HG2.out.mono ?_
    rintro e w6 ⟨rfl, hb6⟩
    have hz2 := Blk.new w6 #[.int .i64 x0, .int .i64 x1, .int .i64 x2, .int .i64 x3] ET
    have hbz := balloc hb6 (.cells #[.int .i64 x0, .int .i64 x1, .int .i64 x2, .int .i64 x3] ET)
    have H7 := Lib.hid (H4.out.on hbz)
    have hz1 := Z1.out.below hbz
    clear hb6 hbz HG2 H4 Z1
    go_upto_region 12 with fail
    generalize w6.alloc (.cells #[.int .i64 x0, .int .i64 x1, .int .i64 x2, .int .i64 x3] ET) = w7 at hz2 H7 hz1 ⊢
    generalize w6.heap.size = z2 at hz2 ⊢
    have X7 := HQ1.out.below H7.out.below
    have c0 := X7.cell (o := 0) rfl
    have c1 := X7.cell (o := 1) rfl
    have c2 := X7.cell (o := 2) rfl
    have c3 := X7.cell (o := 3) rfl
    have i0 := hz1.cell (o := 0) rfl
    have i1 := hz1.cell (o := 1) rfl
    have i2 := hz1.cell (o := 2) rfl
    have i3 := hz1.cell (o := 3) rfl
    have j0 := hz2.cell (o := 0) rfl
    have j1 := hz2.cell (o := 1) rfl
    have j2 := hz2.cell (o := 2) rfl
    have j3 := hz2.cell (o := 3) rfl
    have Z1 := Lib.hid hz1
    have hCt := count_calls w7 p F3 p4 _ x1 x3 H7.out.q
    rw [show countW (told1 a m ⟨x0, x1, x2, x3⟩).ws p4 x1 x3 = m from told1_count ham hm1 HR.out] at hCt
    have HCt := Lib.hid hCt
    clear hCt hz1 hz2 X7
    go_wp2_with fail
    refine HCt.out.mono ?_
    rintro e w8 ⟨rfl, hb8⟩
    have Z8 := Lib.hid (Z1.out.below hb8)
    have H8 := Lib.hid (H7.out.on hb8)
    have Y8 := HQ2.out.below H8.out.below
    have hS2 := set_calls w8 p F3 p4 _ (a : Int) 1 ⟨y0, y1, y2, y3⟩ HY.out H8.out.q
    rw [told2_set ham hm1, told2_code ham hm1] at hS2
    clear hb8 c0 c1 c2 c3 i0 i1 i2 i3 j0 j1 j2 j3 HCt Z1 H7
    have c0 := Y8.cell (o := 0) rfl
    have c1 := Y8.cell (o := 1) rfl
    have c2 := Y8.cell (o := 2) rfl
    have c3 := Y8.cell (o := 3) rfl
    clear Y8
    cases hy : rightE ⟨y0, y1, y2, y3⟩ with
    | false =>
      rw [hy, if_neg (by decide)] at hS2
      have HS2 := Lib.hid hS2
      clear hS2
      go_wp2_with fail
      refine HS2.out.mono ?_
      rintro e w9 ⟨rfl, hW⟩
      obtain ⟨F9, hH, _⟩ := H8.out.wrote hW
      have H9 := Lib.hid hH
      have hC1 := clear_calls w9 p F9 p4 _ (a : Int) m hH.q
      rw [told3_code ham hm1, told3_set ham hm1] at hC1
      have HC1 := Lib.hid hC1
      clear hW hH HS2 H8 hC1 c0 c1 c2 c3
      go_wp2_with fail
      refine HC1.out.mono ?_
      rintro e w10 ⟨rfl, hW⟩
      obtain ⟨F10, hH, _⟩ := H9.out.wrote hW
      have H10 := Lib.hid hH
      have hL := leaves_calls w10 p F10 p4 _ hH.q
      rw [leaves_zero fun i => told3_zero hm1 i] at hL
      have HL := Lib.hid hL
      have hC2 := clear_calls w10 p F10 p4 _ (a : Int) m hH.q
      rw [told4_code ham hm1] at hC2
      have HC2 := Lib.hid hC2
      clear hW hH H9 HC1 hL hC2
      go_wp2_with fail
      refine HL.out.mono ?_
      rintro e w11 ⟨rfl, rfl⟩
      go_wp2_with fail
      refine HC2.out.mono ?_
      rintro e w12 ⟨rfl, hW⟩
      obtain ⟨F12, hH, _⟩ := H10.out.wrote hW
      have H12 := Lib.hid hH
      clear hW hH
      go_wp2_with fail
      go_ret
      exact ⟨rfl, bstep HBB.out H12.out.below⟩
    | true =>
      rw [hy, if_pos rfl] at hS2
      have HS2 := Lib.hid hS2
      have HYr := Lib.hid hy
      clear hS2 hy
      go_wp2_with fail
      refine HS2.out.mono ?_
      rintro e w9 ⟨rfl, hW⟩
      obtain ⟨F9, hH, hk9⟩ := H8.out.wrote hW
      have H9 := Lib.hid hH
      have Z9 := Z8.out.kept hk9 (H8.out.out z1 (by simp)).1
      have hG3 := get_calls w9 p F9 p4 _ (a : Int) hH.q
      rw [told2_at ham hm1 HYr.out, getE_word HYr.out] at hG3
      unfold encE at hG3
      simp only at hG3
      have HG3 := Lib.hid hG3
      clear hW hH HS2 H8 c0 c1 c2 c3 hG3 Z8
      go_wp2_with fail
      refine HG3.out.mono ?_
      rintro e w10 ⟨rfl, hb10⟩
      have Z10 := Z9.below hb10
      have H10 := Lib.hid (H9.out.on hb10)
      have c0 := Z10.cell (o := 0) rfl
      have c1 := Z10.cell (o := 1) rfl
      have c2 := Z10.cell (o := 2) rfl
      have c3 := Z10.cell (o := 3) rfl
      have f0 := Z10.free 0
      have f1 := Z10.free 1
      have f2 := Z10.free 2
      have f3 := Z10.free 3
      have hkz := (((((Kept.refl [z1] w10).setCell (p := ⟨z1, 0, none⟩) (by simp) (.int .i64 y0)).setCell (p := ⟨z1, 1, none⟩) (by simp) (.int .i64 y1)).setCell (p := ⟨z1, 2, none⟩) (by simp) (.int .i64 y2)).setCell (p := ⟨z1, 3, none⟩) (by simp) (.int .i64 y3))
      have H11 := Lib.hid (H10.out.keeps hkz (by simp) (by simpa using ZF.out))
      have Z11 := Lib.hid ((((Z10.set 0 (.int .i64 y0)).set 1 (.int .i64 y1)).set 2 (.int .i64 y2)).set 3 (.int .i64 y3))
      clear hb10 Z9 Z10 H9 HG3 H10 hkz
      go_upto_region 16 with fail
      clear c0 c1 c2 c3 f0 f1 f2 f3
      generalize (((w10.setCell ⟨z1, 0, none⟩ (.int .i64 y0)).setCell ⟨z1, 1, none⟩ (.int .i64 y1)).setCell ⟨z1, 2, none⟩ (.int .i64 y2)).setCell ⟨z1, 3, none⟩ (.int .i64 y3) = w11 at H11 Z11 ⊢
      have Y11 := HQ2.out.below H11.out.below
      have c0 := Y11.cell (o := 0) rfl
      have c1 := Y11.cell (o := 1) rfl
      have c2 := Y11.cell (o := 2) rfl
      have c3 := Y11.cell (o := 3) rfl
      have i0 := Z11.out.cell (o := 0) rfl
      have i1 := Z11.out.cell (o := 1) rfl
      have i2 := Z11.out.cell (o := 2) rfl
      have i3 := Z11.out.cell (o := 3) rfl
      have hC1 := clear_calls w11 p F9 p4 _ (a : Int) m H11.out.q
      rw [told3_code ham hm1, told3_set ham hm1] at hC1
      have HC1 := Lib.hid hC1
      clear hC1 Y11 Z11
      go_wp2_with fail
      refine HC1.out.mono ?_
      rintro e w12 ⟨rfl, hW⟩
      obtain ⟨F12, hH, _⟩ := H11.out.wrote hW
      have H12 := Lib.hid hH
      have hL := leaves_calls w12 p F12 p4 _ hH.q
      rw [leaves_zero fun i => told3_zero hm1 i] at hL
      have HL := Lib.hid hL
      have hC2 := clear_calls w12 p F12 p4 _ (a : Int) m hH.q
      rw [told4_code ham hm1] at hC2
      have HC2 := Lib.hid hC2
      clear hW hH H11 HC1 hL hC2 c0 c1 c2 c3 i0 i1 i2 i3
      go_wp2_with fail
      refine HL.out.mono ?_
      rintro e w13 ⟨rfl, rfl⟩
      go_wp2_with fail
      refine HC2.out.mono ?_
      rintro e w14 ⟨rfl, hW⟩
      obtain ⟨F14, hH, _⟩ := H12.out.wrote hW
      have H14 := Lib.hid hH
      clear hW hH
      go_wp2_with fail
      go_ret
      exact ⟨rfl, bstep HBB.out H14.out.below⟩
  · have hs : setS p4 rs0 page n ⟨x0, x1, x2, x3⟩ = rs0 := by unfold setS; rw [hc, if_neg (by decide)]
    rw [hc, hs] at hS
    have HS := Lib.hid hS
    clear hS hs hc
    go_wp2_with fail
    refine HS.out.mono ?_
    rintro e w3 ⟨rfl, hW⟩
    obtain ⟨F3, hH, _⟩ := H2.out.wrote hW
    have H3 := Lib.hid hH
    clear hW hH
    have HL := Lib.hid ((leaves_calls w3 p F3 p4 rs0 H3.out.q).mono (R' := fun e w'' => e = .returned (.int .i64 0) ∧ w3 = w'') (fun e w'' h => by have := leaves_zero (f := rs0.ws) (fun _ => rfl) (leavesN p4); rw [this] at h; exact h))
    have HSt := Lib.hid ((stamp_calls w3 p F3 p4 rs0 H3.out.q).mono (R' := fun e w'' => e = .returned (.int .u64 0) ∧ w3 = w'') (fun e w'' h => h))
    go_wp2_with (first
      | (go_at_call 19; (with_reducible refine (Calls.mono HSt.out ?_)); rintro e w15 ⟨rfl, rfl⟩)
      | (go_at_call 20; (with_reducible refine (Calls.mono HL.out ?_)); rintro e w15 ⟨rfl, rfl⟩)
      | fail)
    go_ret
    exact ⟨rfl, bstep HBB.out H3.out.below⟩
end Go.Proofs.Ytldlogmjkbhomaa.Rad
