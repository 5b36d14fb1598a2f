/- The contracts of the reference's Clear, Get and Leaves (layer 10). -/
import Derived.Test.YtldlogmjkbhomaaRadS
namespace Go.Proofs.Ytldlogmjkbhomaa.Rad
open Go.RowKit Go.Proofs.Ytldlogmjkbhomaa.Aid Go.Proofs.Ytldlogmjkbhomaa.Pack
theorem rclear_calls (w : World) (p g pages : Nat) (s : RS) (page n : Int) (h : RefAt w p g pages s) :
    Calls Try.prog 15 #[.pointer (some ⟨p, 0, none⟩), .int .i64 page, .int .i64 n] w fun r w' => r = .returned (.int .i64 (clrC pages s page n)) ∧ RefAt w' p g pages (clrS pages s page n) ∧ Kept [p, g] w w' := by
  have HC := Lib.hid (show inR pages page n = false → clrC pages s page n = 11 ∧ clrS pages s page n = s from fun h => by
    have : clrC pages s page n = 11 := by unfold clrC; rw [if_neg (by simp [h])]
    exact ⟨this, by unfold clrS; rw [this, if_neg (by decide)]⟩)
  have HD := Lib.hid (show inR pages page n = true → allNZ s.ws page.toNat n.toNat = false → clrC pages s page n = 16 ∧ clrS pages s page n = s from fun h1 h2 => by
    have : clrC pages s page n = 16 := by unfold clrC; rw [if_pos h1, if_neg (by simp [h2])]
    exact ⟨this, by unfold clrS; rw [this, if_neg (by decide)]⟩)
  have HY := Lib.hid (show inR pages page n = true → allNZ s.ws page.toNat n.toNat = true → clrC pages s page n = 0 ∧ clrS pages s page n = ⟨fillW s.ws page.toNat n.toNat 0, nextS s.st⟩ from fun h1 h2 => by
    have : clrC pages s page n = 0 := by unfold clrC; rw [if_pos h1, if_pos h2]
    exact ⟨this, by unfold clrS; rw [this, if_pos rfl]⟩)
  have HIn := Lib.hid (rin_calls w p g pages s page n h)
  have HT := Lib.hid (nextS_ok s.st)
  have HP := Lib.hid h
  have c0 := h.c0
  have c1 := h.c1
  have f1 := h.head.free 1
  have h12 := h.ok.p12
  have hst0 := h.ok.st0
  have hst1 := h.ok.st1
  have hgp : g ≠ p := Ne.symm h.ne
  have hpg : p ≠ g := h.ne
  cases hi : inR pages page n with
  | false =>
    rw [hi] at HIn
    obtain ⟨e1, e2⟩ := HC.out hi
    rw [e1, e2]
    clear h HC HD HY e1 e2
    go_enter Try.func15, Try.ntmps15
    go_wp2_with fail
    refine HIn.out.mono ?_
    rintro e w5 ⟨rfl, rfl⟩
    go_wp2_with fail
    go_ret
    exact ⟨rfl, HP.out, Kept.refl _ _⟩
  | true =>
    rw [hi] at HIn
    obtain ⟨a, m, rfl, rfl, hm1, ham⟩ := inR_nat hi
    have HD := Lib.hid (HD.out hi)
    have HY := Lib.hid (HY.out hi)
    rw [Int.toNat_natCast, Int.toNat_natCast] at HD HY
    generalize clrC pages s (a : Int) (m : Int) = cc at HD HY ⊢
    generalize clrS pages s (a : Int) (m : Int) = ss at HD HY ⊢
    clear h HC hi
    go_enter Try.func15, Try.ntmps15
    go_wp2_with fail
    refine HIn.out.mono ?_
    rintro e w5 ⟨rfl, rfl⟩
    go_wp2_with fail
    go_loopw [7] (fun i wr => ∃ k : Nat, i = .int .i64 k ∧ a ≤ k ∧ k ≤ a + m ∧ (∀ j, a ≤ j → j < k → s.ws j ≠ 0) ∧ w = wr) (fun i _ => a + m - (intOf i).toNat)
    case atStart => exact ⟨a, rfl, Nat.le_refl _, by omega, fun j hj hk => by omega, rfl⟩
    case round =>
      obtain ⟨k, rfl, hak, hk, hnz, rfl⟩ := hrel
      have HNZ := Lib.hid hnz
      clear hnz
      by_cases hlt : k < a + m
      · have ck := HP.out.ck (i := k) (by omega)
        have hk0 : (0 : Int) ≤ (k : Int) := by omega
        have hk1 : (k : Int) < (pages : Int) := by omega
        have hk2 : (k : Int) < (a : Int) + (m : Int) := by omega
        by_cases h0 : s.ws k = 0
        · rw [h0] at ck
          obtain ⟨rfl, rfl⟩ := HD.out (allNZ_false (k := k - a) (by omega) (by rw [show a + (k - a) = k by omega]; exact h0))
          clear h0
          go_wp2_with fail
          go_ret
          exact ⟨rfl, HP.out, Kept.refl _ _⟩
        · have h0' : (s.ws k == 0) = false := beq_eq_false_iff_ne.2 h0
          have HN := Lib.hid h0
          clear h0
          go_wp2_with fail
          go_roundw
          case rel => exact ⟨k + 1, by go_num, by omega, by omega, fun j h1 hj => (by
            by_cases e : j = k
            · rw [e]; exact HN.out
            · exact HNZ.out j h1 (by omega)), trivial⟩
          case measure => simp [intOf]; omega
      · obtain rfl : k = a + m := by omega
        obtain ⟨rfl, rfl⟩ := HY.out (allNZ_true fun j hj => HNZ.out (a + j) (by omega) (by omega))
        go_upto_region 9 with fail
        rw [show (s.st + 1) % 1099511627776 = nextS s.st from rfl]
        have HP6 := Lib.hid (HP.out.stamp HT.out)
        have HK6 := Lib.hid ((Kept.refl [p, g] w).setCell (p := ⟨p, 1, none⟩) (by simp) (.int .u64 (nextS s.st)))
        have HOk := Lib.hid HP.out.ok
        clear c0 c1 f1 HP HIn HD HY
        generalize w.setCell ⟨p, 1, none⟩ (.int .u64 (nextS s.st)) = w6 at HP6 HK6 ⊢
        go_wp2_with fail
        go_loopw [8] (fun i wr => ∃ k : Nat, i = .int .i64 (k : Int) ∧ a ≤ k ∧ k ≤ a + m ∧ RefAt wr p g pages ⟨fillW s.ws a (k - a) 0, nextS s.st⟩ ∧ Kept [p, g] w wr) (fun i _ => a + m - (intOf i).toNat)
        case atStart => exact ⟨a, rfl, Nat.le_refl _, by omega, by rw [Nat.sub_self, fillW_zero]; exact HP6.out, HK6.out⟩
        case round =>
          obtain ⟨k, rfl, hak, hk, hR, hK⟩ := hrel
          have HR := Lib.hid hR
          have HK := Lib.hid hK
          clear HP6 HK6
          by_cases hlt2 : k < a + m
          · have c0 := hR.c0
            have fk := hR.row.free k
            have ck := hR.ck (i := k) (by omega)
            have hk0 : (0 : Int) ≤ (k : Int) := by omega
            have hk1 : (k : Int) < (pages : Int) := by omega
            have hk2 : (k : Int) < (a : Int) + (m : Int) := by omega
            have Hns := Lib.hid (show ∀ n, n = k - a → fillW s.ws a (k + 1 - a) 0 = putW (fillW s.ws a n 0) k 0 from fun n e => by
              subst e
              rw [show k + 1 - a = (k - a) + 1 by omega, fillW_succ, show a + (k - a) = k by omega])
            clear hR hK
            go_wp2_with fail
            go_roundw
            case rel =>
              have hok : OkR pages ⟨putW (fillW s.ws a (k - a) 0) k 0, nextS s.st⟩ := by
                rw [← Hns.out _ rfl]
                exact HOk.out.fill (by omega) (.inl rfl) _ HT.out
              have hp := HR.out.put (i := k) hok
              rw [← Hns.out _ rfl] at hp
              exact ⟨k + 1, by go_num, by omega, by omega, hp, HK.out.setCell (p := ⟨g, k, none⟩) (by simp) _⟩
            case measure => simp [intOf]; omega
          · obtain rfl : k = a + m := by omega
            go_wp2_with fail
            go_ret
            exact ⟨rfl, by have := HR.out; rw [show a + m - a = m by omega] at this; exact this, HK.out⟩
theorem sizeRE : (Try.prog.info? 37).map (·.size) = some 4 := by kernel_rfl
theorem rget_calls (w : World) (p g pages : Nat) (s : RS) (page : Int) (h : RefAt w p g pages s) :
    Calls Try.prog 23 #[.pointer (some ⟨p, 0, none⟩), .int .i64 page] w fun e w' => e = getE (wordAt pages s page) ∧ Below w.heap.size w w' := by
  have hBq := Blk.new w #[.int .i64 0, .int .i64 0, .int .i64 0, .int .i64 0] 37
  have hb1 := balloc (Below.refl w.heap.size w) (.cells #[.int .i64 0, .int .i64 0, .int .i64 0, .int .i64 0] 37)
  have hQ := h.below hb1
  have hlt := h.head.lt
  have hlg := h.row.lt
  have HP := Lib.hid hQ
  have HB1 := Lib.hid hb1
  have HBq := Lib.hid hBq
  have h12 := h.ok.p12
  have hx := wordAt_ok h.ok page
  have HX := Lib.hid hx
  clear h hQ hb1 hBq hx
  go_enter Try.func23, Try.ntmps23
  go_upto_region 1 with fail
  generalize w.alloc (.cells #[.int .i64 0, .int .i64 0, .int .i64 0, .int .i64 0] 37) = w1 at HP HB1 HBq ⊢
  obtain ⟨q, hq⟩ : ∃ q, q = w.heap.size := ⟨_, rfl⟩
  rw [← hq] at HBq hlt hlg ⊢
  have HQ := Lib.hid (Nat.le_of_eq hq.symm)
  clear hq
  have hqp : q ≠ p := by omega
  have hqg : q ≠ g := by omega
  have hpq : p ≠ q := by omega
  have hgq : g ≠ q := by omega
  have q0 := HBq.out.cell (o := 0) rfl
  have q1 := HBq.out.cell (o := 1) rfl
  have q2 := HBq.out.cell (o := 2) rfl
  have q3 := HBq.out.cell (o := 3) rfl
  have f0 := HBq.out.free 0
  have f1 := HBq.out.free 1
  have f2 := HBq.out.free 2
  have f3 := HBq.out.free 3
  have c0 := HP.out.c0
  by_cases hin : 0 ≤ page ∧ page < (pages : Int)
  · obtain ⟨i, rfl⟩ := Int.eq_ofNat_of_zero_le hin.1
    have hi1 : (i : Int) < (pages : Int) := hin.2
    have hi0 : (0 : Int) ≤ (i : Int) := hin.1
    have ck := HP.out.ck (i := i) (by omega)
    have HWa := Lib.hid (wordAt_in (s := s) (show i < pages by omega))
    rw [HWa.out] at HX
    by_cases h0 : s.ws i = 0
    · rw [h0] at ck
      have HG := Lib.hid (show getE (wordAt pages s (i : Int)) = .returned (.tuple #[.agg #[.int .i64 0, .int .i64 0, .int .i64 0, .int .i64 0], .bool false]) from by rw [HWa.out, h0]; rfl)
      clear h0 hin
      go_wp2_with fail
      have hq2 := (((HBq.out.set 0 (.int .i64 0)).set 1 (.int .i64 0)).set 2 (.int .i64 0)).set 3 (.int .i64 0)
      refine bodyPost_ret_by (results_cell_rec rfl _ _ q 37 #[.int .i64 0, .int .i64 0, .int .i64 0, .int .i64 0] _ rfl hq2 Try.underlying37 rfl sizeRE _ rfl) rfl ?_
      exact ⟨HG.out.symm, (((HB1.out.setCell (p := ⟨q, 0, none⟩) HQ.out _).setCell (p := ⟨q, 1, none⟩) HQ.out _).setCell (p := ⟨q, 2, none⟩) HQ.out _).setCell (p := ⟨q, 3, none⟩) HQ.out _⟩
    · have h0' : (s.ws i == 0) = false := beq_eq_false_iff_ne.2 h0
      have HG := Lib.hid (show getE (wordAt pages s (i : Int)) = .returned (.tuple #[.agg #[.int .i64 (s.ws i % 16777216 / 4096), .int .i64 (s.ws i % 16777216 / 1024 % 4), .int .i64 (s.ws i % 16777216 / 16 % 64), .int .i64 (s.ws i % 16777216 / 2 % 8)], .bool true]) from by
        rw [HWa.out]
        unfold getE
        rw [if_neg h0]
        unfold encE entW
        simp only
        have hR := HX.out.R
        unfold Aid.R at hR
        have e1 : s.ws i / 4096 % 4096 = s.ws i % 16777216 / 4096 := by omega
        have e2 : s.ws i / 1024 % 4 = s.ws i % 16777216 / 1024 % 4 := by omega
        have e3 : s.ws i / 16 % 64 = s.ws i % 16777216 / 16 % 64 := by omega
        have e4 : s.ws i / 2 % 8 = s.ws i % 16777216 / 2 % 8 := by omega
        rw [e1, e2, e3, e4])
      have hR := HX.out.R
      unfold Aid.R at hR
      obtain ⟨x0, x1⟩ := hR
      have y0 : 0 ≤ s.ws i % 16777216 := by omega
      have y1 : s.ws i % 16777216 < 16777216 := by omega
      clear h0 hin
      go_upto_region 4 with fail
      generalize s.ws i % 16777216 = y at HG y0 y1 ⊢
      clear ck x0 x1 h0'
      have z1 : 0 ≤ y / 1024 := by omega
      have z2 : 0 ≤ y / 16 := by omega
      have z3 : 0 ≤ y / 2 := by omega
      go_wp2_with fail
      have hq2 := (((HBq.out.set 0 (.int .i64 (y / 4096))).set 1 (.int .i64 (y / 1024 % 4))).set 2 (.int .i64 (y / 16 % 64))).set 3 (.int .i64 (y / 2 % 8))
      refine bodyPost_ret_by (results_cell_rec rfl _ _ q 37 #[.int .i64 (y / 4096), .int .i64 (y / 1024 % 4), .int .i64 (y / 16 % 64), .int .i64 (y / 2 % 8)] _ rfl hq2 Try.underlying37 rfl sizeRE _ rfl) rfl ?_
      exact ⟨HG.out.symm, (((HB1.out.setCell (p := ⟨q, 0, none⟩) HQ.out _).setCell (p := ⟨q, 1, none⟩) HQ.out _).setCell (p := ⟨q, 2, none⟩) HQ.out _).setCell (p := ⟨q, 3, none⟩) HQ.out _⟩
  · have HG := Lib.hid (show getE (wordAt pages s page) = .returned (.tuple #[.agg #[.int .i64 0, .int .i64 0, .int .i64 0, .int .i64 0], .bool false]) from by
      unfold wordAt
      rw [if_neg hin]
      rfl)
    have hq2 := (((HBq.out.set 0 (.int .i64 0)).set 1 (.int .i64 0)).set 2 (.int .i64 0)).set 3 (.int .i64 0)
    have HQ2 := Lib.hid hq2
    clear hq2
    by_cases h0 : 0 ≤ page
    · have h1 : (pages : Int) ≤ page := by omega
      clear hin
      go_wp2_with fail
      refine bodyPost_ret_by (results_cell_rec rfl _ _ q 37 #[.int .i64 0, .int .i64 0, .int .i64 0, .int .i64 0] _ rfl HQ2.out Try.underlying37 rfl sizeRE _ rfl) rfl ?_
      exact ⟨HG.out.symm, (((HB1.out.setCell (p := ⟨q, 0, none⟩) HQ.out _).setCell (p := ⟨q, 1, none⟩) HQ.out _).setCell (p := ⟨q, 2, none⟩) HQ.out _).setCell (p := ⟨q, 3, none⟩) HQ.out _⟩
    · clear hin
      go_wp2_with fail
      refine bodyPost_ret_by (results_cell_rec rfl _ _ q 37 #[.int .i64 0, .int .i64 0, .int .i64 0, .int .i64 0] _ rfl HQ2.out Try.underlying37 rfl sizeRE _ rfl) rfl ?_
      exact ⟨HG.out.symm, (((HB1.out.setCell (p := ⟨q, 0, none⟩) HQ.out _).setCell (p := ⟨q, 1, none⟩) HQ.out _).setCell (p := ⟨q, 2, none⟩) HQ.out _).setCell (p := ⟨q, 3, none⟩) HQ.out _⟩
def anyW (f : Nat → Int) (j d : Nat) : Bool := (List.range d).any fun x => f (j + x) != 0
theorem anyW_succ (f : Nat → Int) (j d : Nat) : anyW f j (d + 1) = (anyW f j d || f (j + d) != 0) := by
  unfold anyW
  rw [List.range_succ, List.any_append]
  simp
theorem anyW_cnt {f : Nat → Int} {k d : Nat} (hd : d ≤ 64) (h : ∀ x, d ≤ x → x < 64 → f (64 * k + x) = 0) : anyW f (64 * k) d = (cntW f k != 0) := by
  by_cases hc : cntW f k = 0
  · have hz := cntW_zero.1 hc
    rw [hc]
    unfold anyW
    rw [List.any_eq_false.2 fun x hx => by simp [hz x (by have := List.mem_range.1 hx; omega)]]
    rfl
  · have : anyW f (64 * k) d = true := by
      unfold anyW
      rw [List.any_eq_true]
      apply Classical.byContradiction
      intro hn
      apply hc
      refine cntW_zero.2 fun j hj => ?_
      apply Classical.byContradiction
      intro hj0
      rcases Nat.lt_or_ge j d with h1 | h1
      · exact hn ⟨j, List.mem_range.2 h1, by simpa using hj0⟩
      · exact hj0 (h j h1 hj)
    rw [this]
    simp [hc]
theorem rleaves_calls (w : World) (p g pages : Nat) (s : RS) (h : RefAt w p g pages s) :
    Calls Try.prog 21 #[.pointer (some ⟨p, 0, none⟩)] w fun e w' => e = .returned (.int .i64 (leavesW s.ws (leavesN pages) : Nat)) ∧ w = w' := by
  have c0 := h.c0
  have HP := Lib.hid h
  have h12 := h.ok.p12
  have HL := Lib.hid (show ∀ k, 64 * k < pages ↔ k < leavesN pages from fun k => by unfold leavesN; omega)
  clear h
  go_enter Try.func21, Try.ntmps21
  go_wp2_with fail
  go_loopw [3, 4] (fun n i wr => ∃ k j : Nat, j = 64 * k ∧ i = .int .i64 (j : Int) ∧ k ≤ leavesN pages ∧ n = .int .i64 (leavesW s.ws k : Nat) ∧ w = wr) (fun _ i _ => 64 * leavesN pages - (intOf i).toNat)
  case atStart => exact ⟨0, 0, rfl, rfl, by omega, rfl, rfl⟩
  case round =>
    obtain ⟨k, j, hjk, rfl, hk, rfl, rfl⟩ := hrel
    have HJ := Lib.hid hjk
    clear hjk
    have HLe := Lib.hid (leavesW_le s.ws k)
    have hL64 : leavesN pages ≤ 64 := by unfold leavesN; omega
    have hj4 : (j : Int) ≤ 4096 := by have := HJ.out; omega
    have hj0 : (0 : Int) ≤ (j : Int) := by omega
    by_cases hlt : j < pages
    · have hklt := Lib.hid ((HL.out k).1 (by rw [← HJ.out]; exact hlt))
      have hjlt : (j : Int) < (pages : Int) := by omega
      go_wp2_with fail
      go_loopw [5, 6] (fun b u wr => ∃ d m : Nat, m = j + d ∧ u = .int .i64 (m : Int) ∧ d ≤ 64 ∧ m ≤ pages ∧ b = .bool (anyW s.ws j d) ∧ w = wr) (fun _ u _ => j + 64 - (intOf u).toNat)
      case atStart => exact ⟨0, j, rfl, rfl, by omega, by omega, rfl, rfl⟩
      case round =>
        obtain ⟨d, m, hm, rfl, hd, hdp, rfl, rfl⟩ := hrel
        have HA := Lib.hid (anyW_succ s.ws j d)
        have HM := Lib.hid hm
        rw [← hm] at HA
        have hm0 : (0 : Int) ≤ (m : Int) := by omega
        by_cases hlt2 : d < 64 ∧ m < pages
        · obtain ⟨hd1, hd2⟩ := hlt2
          have ck := HP.out.ck hd2
          have hm1 : (m : Int) < (pages : Int) := by omega
          have hm2 : (m : Int) < (j : Int) + 64 := by omega
          have hmj : m < j + 64 := by omega
          clear hm
          cases ha : anyW s.ws j d with
          | true =>
            rw [ha] at HA
            go_wp2_with fail
            go_roundw
            case rel => exact ⟨d + 1, m + 1, by have := HM.out; omega, by go_num, by omega, by omega, by rw [HA.out]; rfl, trivial⟩
            case measure => simp [intOf]; omega
          | false =>
            rw [ha, Bool.false_or] at HA
            by_cases h0 : s.ws m = 0
            · rw [h0] at ck
              have HZ := Lib.hid h0
              clear h0
              go_wp2_with fail
              go_roundw
              case rel => exact ⟨d + 1, m + 1, by have := HM.out; omega, by go_num, by omega, by omega, by rw [HA.out, HZ.out]; rfl, trivial⟩
              case measure => simp [intOf]; omega
            · have h0' : (s.ws m != 0) = true := by simpa using h0
              rw [h0'] at HA
              clear h0
              go_wp2_with fail
              go_roundw
              case rel => exact ⟨d + 1, m + 1, by have := HM.out; omega, by go_num, by omega, by omega, by rw [HA.out], trivial⟩
              case measure => simp [intOf]; omega
        · have hAny : anyW s.ws j d = (cntW s.ws k != 0) := by
            rw [HJ.out]
            refine anyW_cnt hd fun x h1 h2 => ?_
            refine HP.out.ok.out _ ?_
            have := HJ.out
            omega
          have HS := Lib.hid (leavesW_succ s.ws k)
          rw [← hAny] at HS
          have hcond : (m : Int) < (j : Int) + 64 → (pages : Int) ≤ (m : Int) := by omega
          have hk2 : leavesW s.ws k ≤ 64 := by have := HLe.out; omega
          clear hm hAny hlt2
          by_cases h3 : (m : Int) < (j : Int) + 64
          · have h4 := hcond h3
            clear hcond
            cases ha : anyW s.ws j d with
            | true =>
              rw [ha] at HS
              go_wp2_with fail
              go_roundw
              case rel => exact ⟨k + 1, j + 64, by have := HJ.out; omega, by go_num, by have := hklt.out; omega, by rw [HS.out]; exact congrArg (Value.int .i64) (by simp), trivial⟩
              case measure => simp [intOf]; have := HJ.out; have := hklt.out; omega
            | false =>
              rw [ha] at HS
              go_wp2_with fail
              go_roundw
              case rel => exact ⟨k + 1, j + 64, by have := HJ.out; omega, by go_num, by have := hklt.out; omega, by rw [HS.out]; rfl, trivial⟩
              case measure => simp [intOf]; have := HJ.out; have := hklt.out; omega
          · have h4 : (j : Int) + 64 ≤ (m : Int) := by omega
            clear hcond h3
            cases ha : anyW s.ws j d with
            | true =>
              rw [ha] at HS
              go_wp2_with fail
              go_roundw
              case rel => exact ⟨k + 1, j + 64, by have := HJ.out; omega, by go_num, by have := hklt.out; omega, by rw [HS.out]; exact congrArg (Value.int .i64) (by simp), trivial⟩
              case measure => simp [intOf]; have := HJ.out; have := hklt.out; omega
            | false =>
              rw [ha] at HS
              go_wp2_with fail
              go_roundw
              case rel => exact ⟨k + 1, j + 64, by have := HJ.out; omega, by go_num, by have := hklt.out; omega, by rw [HS.out]; rfl, trivial⟩
              case measure => simp [intOf]; have := HJ.out; have := hklt.out; omega
    · have hkk : k = leavesN pages := by
        have h1 := HL.out k
        rw [← HJ.out] at h1
        omega
      have hjge : (pages : Int) ≤ (j : Int) := by omega
      have HKK := Lib.hid hkk
      clear hkk hlt
      go_wp2_with fail
      go_ret
      exact ⟨by rw [← HKK.out]; rfl, rfl⟩
end Go.Proofs.Ytldlogmjkbhomaa.Rad
