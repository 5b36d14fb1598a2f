/- SpansCalls where there are pages. -/
import Derived.Test.YtldlogmjkbhomaaSpaLb
import Derived.Test.YtldlogmjkbhomaaSpaO
set_option linter.unusedSimpArgs false
namespace Go.Proofs.Ytldlogmjkbhomaa.Spa
open Go.RowKit Go.Proofs.Ytldlogmjkbhomaa.Aid
theorem free_step (xs : List Rn) {k : Nat} (h : k < xs.length) : freeN (xs.take (k + 1)) = freeN (xs.take k) + if (xs.getD k r0).t = true then 0 else (xs.getD k r0).n := by
  rw [take_snocR h, freeN_app]
  generalize xs.getD k r0 = r
  obtain ⟨p, n, t⟩ := r
  cases t <;> simp [freeN]
theorem max_step (xs : List Rn) {k : Nat} (h : k < xs.length) : maxN (xs.take (k + 1)) = if (xs.getD k r0).t = true then maxN (xs.take k) else max (maxN (xs.take k)) (xs.getD k r0).n := by
  rw [take_snocR h, maxN_snoc]
theorem max_val (m sp sn : Nat) : Value.int .i64 (if m < sn then (sn : Int) else (m : Int)) = Value.int .i64 (((if (⟨sp, sn, false⟩ : Rn).t = true then m else max m (⟨sp, sn, false⟩ : Rn).n : Nat)) : Int) := by
  have : max m sn = if m < sn then sn else m := by split <;> omega
  show _ = Value.int .i64 ((max m sn : Nat) : Int)
  rw [this]
  split <;> rfl
theorem free_pre {P : Nat} {xs : List Rn} (h : OkS P xs) (k : Nat) : freeN (xs.take k) ≤ P := by
  have h1 := freeN_le _ h.ch
  have h2 := freeN_app (xs.take k) (xs.drop k)
  rw [List.take_append_drop] at h2
  omega
set_option maxHeartbeats 8000000 in
set_option maxRecDepth 100000 in
theorem calls_yes (w : World) (P : Nat) (xs : List Cl) (A : Option Addr) (c : Nat) (ask al : Int) (hx : Cls w A xs) (hP : P ≤ 200) (hl : xs.length ≤ 100) :
    Calls Try.prog 9 #[.int .i64 P, .slice A xs.length c, .int .i64 ask, .int .i64 al] w fun e w' => e = .returned (.bool true) ∧ Below w.heap.size w w' := by
  have HX := Lib.hid hx
  have HG := Lib.hid (fun W : World => great_calls W P A xs.length c)
  rw [show (decide ((200 : Int) < (P : Int)) || decide (100 < xs.length)) = false by simp; omega] at HG
  clear hx
  go_enter Try.func9, Try.ntmps9
  go_wp2_with fail
  refine (alive_calls w).mono ?_
  rintro e w1 ⟨rfl, hb1⟩
  have HB1 := Lib.hid hb1
  clear hb1
  go_wp2_with fail
  refine (HG.out w1).mono ?_
  rintro e w2 ⟨rfl, rfl⟩
  go_wp2_with fail
  refine (new_yes w1 P (by omega)).mono ?_
  rintro e w2 ⟨p, F, rfl, hQ, hF, hb⟩
  have H2 := Lib.hid (And.intro (show Hold w w2 p F P (xs0 P) from ⟨hQ, fun x hx => Nat.le_trans HB1.out.size (hF x hx), below_then HB1.out hb⟩) hQ.flt)
  clear hQ hF hb HG HB1
  go_wp2_with fail
  refine (rnew_yes w2 P (by omega)).mono ?_
  rintro e w3 ⟨q, rfl, G, hQ, hF, hb⟩
  have H3 := Lib.hid (show Two w w3 p F q G P (xs0 P) from ⟨H2.out.1.on hb, hQ, fun x hx hg => by
    have h1 := H2.out.2 x hx
    have h2 := hF x hg
    omega, fun x hx => Nat.le_trans H2.out.1.below.size (hF x hx)⟩)
  clear hQ hF hb H2
  go_wp2_with fail
  go_loopw [13] (fun i wr => ∃ (k : Nat) (ys : List Rn) (F : List Nat), i = .int .i64 k ∧ k ≤ xs.length ∧ Two w wr p F q G P ys) (fun i _ => xs.length - (intOf i).toNat)
  case atStart => exact ⟨0, _, F, rfl, by omega, H3.out⟩
  case round =>
    obtain ⟨k, ys, F, rfl, hk, hT⟩ := hrel
    have HT := Lib.hid hT
    clear hT H3
    by_cases hlt : k < xs.length
    · obtain ⟨bc, oc, rfl, hC⟩ := HX.out k hlt
      generalize xs.getD k cl0 = cl at hC
      have hC2 := hC.below HT.out.hold.below
      have hk0 : (0 : Int) ≤ (k : Int) := by omega
      have hk1 : (k : Int) < (xs.length : Int) := by omega
      have d0 := hC2.c0
      have d1 := hC2.c1
      have d2 := hC2.c2
      obtain ⟨g, n, a⟩ := cl
      dsimp only at d0 d1 d2
      clear hC hC2
      go_wp2_with fail
      refine (do_calls w wr p F q G P ys HT.out g n a).mono ?_
      rintro e w4 ⟨rfl, ys', F', h⟩
      have H4 := Lib.hid h
      clear h HT d0 d1 d2
      go_wp2_with fail
      go_roundw
      case rel => exact ⟨k + 1, ys', F', by go_num, by omega, H4.out⟩
      case measure => simp [intOf]; omega
    · obtain rfl : k = xs.length := by omega
      clear hk hlt
      go_wp2_with fail
      refine (runs_calls wr p F P ys HT.out.hold.sp).mono ?_
      rintro e w4 ⟨hd, rfl, hR, _, hb4⟩
      obtain ⟨A5, c5, rfl, hat⟩ := Hdr.open3 hR
      have H4 := Lib.hid (HT.out.on hb4)
      have HAT := Lib.hid hat
      have HL := Lib.hid (len_le HT.out.hold.sp.ok)
      clear hR hb4 hat HT HX
      go_wp2_with fail
      refine (rruns_calls w4 q G P ys H4.out.ref).mono ?_
      rintro e w5 ⟨hd, rfl, g2, c2, rfl, hR, _, hb5⟩
      have H5 := Lib.hid (And.intro (H4.out.on hb5) (seen_of HAT.out hb5 hR))
      clear hR hb5 HAT H4
      go_wp2_with fail
      refine (find_any w5 p F P ys H5.out.1.hold.sp ask).mono ?_
      rintro e w6 ⟨r, rfl, hfind, hb6⟩
      have H6 := Lib.hid (And.intro (H5.out.1.on hb6) (H5.out.2.on hb6))
      have HF := Lib.hid hfind
      clear hfind hb6 H5
      go_upto_region 19 with fail
      have hb7 := (Below.refl w6.heap.size w6).alloc (Nat.le_refl _) (.cells #[.int .i64 r.p, .int .i64 r.n, .bool r.t] RT)
      have HB := Lib.hid (Blk.new w6 #[.int .i64 r.p, .int .i64 r.n, .bool r.t] RT)
      have H7 := Lib.hid (And.intro (H6.out.1.on hb7) (H6.out.2.on hb7))
      clear hb7 H6
      generalize w6.alloc (.cells #[.int .i64 r.p, .int .i64 r.n, .bool r.t] RT) = w7 at H7 HB ⊢
      generalize w6.heap.size = b7 at HB ⊢
      go_cut [17, 95] (fun v b wc => v = .bool (findB ask P) ∧ b = .bool false ∧ w7 = wc)
      case first =>
        by_cases h1 : 0 ≤ ask
        · by_cases h2 : ask < P
          · have hf : findB ask P = true := by unfold findB; simp [h1, h2]
            rw [hf]
            go_wp2_with fail
            go_meet
            exact ⟨by rw [hf], rfl, rfl⟩
          · have hf : findB ask P = false := by unfold findB; simp [h2]
            rw [hf]
            go_wp2_with fail
            go_meet
            exact ⟨by rw [hf], rfl, rfl⟩
        · have hf : findB ask P = false := by unfold findB; simp [h1]
          rw [hf]
          go_wp2_with fail
          go_meet
          exact ⟨by rw [hf], rfl, rfl⟩
      case rest =>
      obtain ⟨rfl, rfl, rfl⟩ := hcut
      go_wp2_with fail
      go_loopw [18, 19, 20] (fun fr mx i wr => ∃ k : Nat, i = .int .i64 k ∧ k ≤ ys.length ∧ fr = .int .i64 (freeN (ys.take k) : Nat) ∧ mx = .int .i64 (maxN (ys.take k) : Nat) ∧ Below w7.heap.size w7 wr) (fun _ _ i _ => ys.length - (intOf i).toNat)
      case atStart => exact ⟨0, rfl, by omega, rfl, rfl, Below.refl _ _⟩
      case round =>
        obtain ⟨k, rfl, hk, rfl, rfl, hb⟩ := hrel
        have H8 := Lib.hid hb
        clear hb
        by_cases hlt : k < ys.length
        · have hk0 : (0 : Int) ≤ (k : Int) := by omega
          have hk1 : (k : Int) < (ys.length : Int) := by omega
          obtain ⟨g5, rfl, a0, a1, a2⟩ := (H7.out.2.on H8.out).ours k hlt
          obtain ⟨m0, m1, m2⟩ := (H7.out.2.on H8.out).refs k hlt
          have HST := Lib.hid (And.intro (free_step ys hlt) (max_step ys hlt))
          have HR := Lib.hid (pos_n H7.out.1.hold.sp.ok hlt)
          have HC := Lib.hid (show findB ask P = true → (r = ys.getD k r0 ∧ ((ys.getD k r0).p : Int) ≤ ask ∧ ask < (ys.getD k r0).p + (ys.getD k r0).n) ∨ ask < ((ys.getD k r0).p : Int) ∨ ((ys.getD k r0).p : Int) ≤ ask ∧ ((ys.getD k r0).p : Int) + (ys.getD k r0).n ≤ ask from fun h => by
            obtain ⟨j, hj, h1, h2, rfl⟩ := HF.out h
            rcases Nat.lt_trichotomy j k with e | e | e
            · have := mono_p H7.out.1.hold.sp.ok e hlt
              exact .inr (.inl (by omega))
            · subst e
              exact .inl ⟨rfl, h1, h2⟩
            · have := mono_p H7.out.1.hold.sp.ok e hj
              exact .inr (.inr (by omega)))
          generalize ys.getD k r0 = s at *
          obtain ⟨sp, sn, st⟩ := s
          dsimp only at a0 a1 a2 m0 m1 m2 HR
          have HFP := Lib.hid (And.intro (free_pre H7.out.1.hold.sp.ok k) HST.out)
          clear HST
          generalize freeN (ys.take k) = fk at *
          generalize maxN (ys.take k) = mk at *
          go_upto_region 27 with fail
          have hb9 := H8.out.alloc H8.out.size (.cells #[.int .i64 sp, .int .i64 sn, .bool st] RT2)
          have HZ := Blk.new wr #[.int .i64 sp, .int .i64 sn, .bool st] RT2
          have hbb := (Below.refl wr.heap.size wr).alloc (Nat.le_refl _) (.cells #[.int .i64 sp, .int .i64 sn, .bool st] RT2)
          replace a0 := cell_on a0 hbb
          replace a1 := cell_on a1 hbb
          replace a2 := cell_on a2 hbb
          have HA := Lib.hid (And.intro a0 (And.intro a1 a2))
          have H9 := Lib.hid hb9
          clear hb9 hbb m0 m1 m2 H8
          generalize wr.alloc (.cells #[.int .i64 sp, .int .i64 sn, .bool st] RT2) = w9 at *
          generalize wr.heap.size = b9 at *
          have y0 := HZ.cell (o := 0) rfl
          have y1 := HZ.cell (o := 1) rfl
          have y2 := HZ.cell (o := 2) rfl
          have hBB := HB.out.below H9.out
          have x0 := hBB.cell (o := 0) rfl
          have x1 := hBB.cell (o := 1) rfl
          have x2 := hBB.cell (o := 2) rfl
          have HYX := Lib.hid (And.intro HZ hBB)
          clear HZ hBB
          go_cut [17, 159] (fun u v wc => u = .bool (findB ask P) ∧ v = .bool false ∧ ∃ nq, wc = w9.drewN nq)
          case first =>
            by_cases hft : findB ask P = false
            · have hf := hft
              rw [hf]
              go_quiet (fail)
              generalize hW : w9.drewN nq = W
              go_wp2_with fail
              go_meet
              exact ⟨by rw [hf], rfl, nq, hW.symm⟩
            · have hf : findB ask P = true := by simpa using hft
              have hc := HC.out hf
              rw [hf]
              have hff : ask < (P : Int) := by
                have := hf
                unfold findB at this
                simp at this
                omega
              dsimp only at hc
              clear HC
              rcases hc with ⟨rfl, h1, h2⟩ | h1 | ⟨h1, h2⟩
              · have hd1 : ∀ D : Decidable ((sp : Int) ≤ ask), @decide _ D = true := fun D => by simp; omega
                have hd2 : ∀ D : Decidable (ask - (sp : Int) < (sn : Int)), @decide _ D = true := fun D => by simp; omega
                have hb1 : (0 : Int) ≤ ask - (sp : Int) := by omega
                have hb2 : ask - (sp : Int) < 9223372036854775808 := by have := HR.out; omega
                go_quiet (fail)
                generalize hW : w9.drewN nq = W
                go_wp2_with fail
                go_meet
                exact ⟨by rw [hf], rfl, nq, hW.symm⟩
              · have hd1 : ∀ D : Decidable ((sp : Int) ≤ ask), @decide _ D = false := fun D => by simp; omega
                go_quiet (fail)
                generalize hW : w9.drewN nq = W
                go_wp2_with fail
                go_meet
                exact ⟨by rw [hf], rfl, nq, hW.symm⟩
              · have hd1 : ∀ D : Decidable ((sp : Int) ≤ ask), @decide _ D = true := fun D => by simp; omega
                have hd2 : ∀ D : Decidable (ask - (sp : Int) < (sn : Int)), @decide _ D = false := fun D => by simp; omega
                have hb1 : (0 : Int) ≤ ask - (sp : Int) := by omega
                have hb2 : ask - (sp : Int) < 9223372036854775808 := by omega
                go_quiet (fail)
                generalize hW : w9.drewN nq = W
                go_wp2_with fail
                go_meet
                exact ⟨by rw [hf], rfl, nq, hW.symm⟩
          case rest =>
            obtain ⟨rfl, rfl, nq, rfl⟩ := hcut
            have HY := Lib.hid (below_drewN (Below.refl w9.heap.size w9) nq)
            have HQ := Lib.hid (H9.out.trans (HY.out.mono H9.out.size))
            have HB2 := Lib.hid (HYX.out.1.below HY.out)
            clear HYX HA HC a0 a1 a2 x0 x1 x2 y0 y1 y2 H9 HY
            generalize w9.drewN nq = W at *
            have y1 := HB2.out.cell (o := 1) rfl
            have y2 := HB2.out.cell (o := 2) rfl
            have hf0 : (0 : Int) ≤ (fk : Int) + (sn : Int) := by omega
            have hf1 : (fk : Int) + (sn : Int) < 9223372036854775808 := by have := HFP.out.1; have := HR.out; omega
            have hyl := HL.out
            cases st with
            | true =>
              go_wp2_with fail
              go_roundw
              case rel => exact ⟨k + 1, by have := HL.out; go_num, by omega, by rw [HFP.out.2.1]; rfl, by rw [HFP.out.2.2]; rfl, HQ.out⟩
              case measure =>
                have := HL.out
                simp [intOf]; omega
            | false =>
              go_wp2_with fail
              go_roundw
              case rel => exact ⟨k + 1, by have := HL.out; go_num, by omega, by rw [HFP.out.2.1]; rfl, by rw [HFP.out.2.2]; exact max_val mk sp sn, HQ.out⟩
              case measure =>
                have := HL.out
                simp [intOf]; omega
        · obtain rfl : k = ys.length := by omega
          rw [List.take_length] at *
          have H9 := Lib.hid (H7.out.1.on H8.out)
          clear H7 H8 HB HF HL hk hlt
          go_wp2_with fail
          refine (rruns_calls wr q G P ys H9.out.ref).mono ?_
          rintro e w5 ⟨hd, rfl, g3, c3, rfl, _, _, hb5⟩
          have H10 := Lib.hid (H9.out.on hb5)
          clear hb5 H9
          go_wp2_with fail
          refine (rtake_calls w5 q G P ys H10.out.ref ask al).mono ?_
          rintro e w6 ⟨rfl, _, hK⟩
          have H11 := Lib.hid (H10.out.hold.kept hK H10.out.dis H10.out.base)
          have HTC := Lib.hid (take_can ask al ys)
          generalize takeE ask al ys = te at *
          generalize takeAt ask al ys = ta at *
          clear hK H10
          go_wp2_with fail
          refine (free_calls w6 p F P ys H11.out.sp).mono ?_
          rintro e w7 ⟨rfl, hb⟩
          have H12 := Lib.hid (H11.out.on hb)
          clear hb H11
          go_wp2_with fail
          refine (largest_calls w7 p F P ys H12.out.sp).mono ?_
          rintro e w8 ⟨rfl, hb⟩
          have H13 := Lib.hid (H12.out.on hb)
          clear hb H12
          go_wp2_with fail
          refine (can_calls w8 p F P ys H13.out.sp ask al).mono ?_
          rintro e w9 ⟨rfl, hb⟩
          have H14 := Lib.hid (H13.out.on hb)
          clear hb H13
          rw [← HTC.out]
          go_wp2_with fail
          refine (runs_calls w9 p F P ys H14.out.sp).mono ?_
          rintro e w10 ⟨hd, rfl, hR, _, hb⟩
          obtain ⟨A6, c6, rfl, _⟩ := Hdr.open3 hR
          have H15 := Lib.hid (H14.out.on hb)
          clear hb H14 hR
          go_wp2_with fail
          go_ret
          exact ⟨ret_bool (by simp), H15.out.below⟩
end Go.Proofs.Ytldlogmjkbhomaa.Spa
