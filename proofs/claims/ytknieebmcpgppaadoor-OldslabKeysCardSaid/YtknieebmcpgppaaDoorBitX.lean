/- The walk of BitsCalls: it returns true. -/
import Derived.Test.YtknieebmcpgppaaDoorBitW
import Derived.Test.YtknieebmcpgppaaDoorBitS
namespace Go.Proofs.YtknieebmcpgppaaDoor.Bit
open Go.RowKit Go.Proofs.YtknieebmcpgppaaDoor.Aid
theorem listL_len (l : List Bool) : (listL l).length ≤ l.length := by
  unfold listL bitsTo
  rw [List.length_map]
  exact Nat.le_trans (List.length_filter_le _ _) (by simp)
theorem cnt_list (l : List Bool) : cntL l = (listL l).length := by
  exact (bitsTo_cnt l l.length).symm
theorem row_word {w : World} {g c : Nat} {l : List Bool} (h : Row w 44 g c ((words l).map (.int .u64))) {k : Nat} (hk : k < nwords l.length) : w.cell? ⟨g, k, none⟩ = some (.int .u64 (Bit.word l k)) := by
  rw [h.cell (by simpa [words_len] using hk)]
  rw [List.getElem?_map, ← words_get l k hk, List.getD_eq_getElem?_getD, List.getElem?_eq_getElem (by rw [words_len]; exact hk)]
  rfl
theorem box_word (w : World) (l : List Bool) (T : TypeId) : ∀ k, k < 4 → (w.alloc (.cells #[.int .u64 (Bit.word l 0), .int .u64 (Bit.word l 1), .int .u64 (Bit.word l 2), .int .u64 (Bit.word l 3)] T)).cell? ⟨w.heap.size, k, none⟩ = some (.int .u64 (Bit.word l k)) := by
  intro k hk
  have : k = 0 ∨ k = 1 ∨ k = 2 ∨ k = 3 := by omega
  rcases this with rfl | rfl | rfl | rfl <;> go_simp
theorem info_bool : (Tryd.prog.info? 4).map (fun i => (i.zero, i.size, i.bytes)) = some (some (.bool false), 1, 1) := by kernel_rfl
set_option maxHeartbeats 8000000 in
set_option maxRecDepth 100000 in
theorem bits_calls (w : World) (n : Int) (A : Option Addr) (ca : Nat) (xs : List Ask) (fr want : Int) (s : Bool) (hT : Tab w) (hx : Asks w A xs) (_ : xs.length ≤ maxLen) (hn : -9223372036854775808 ≤ n ∧ n ≤ 9223372036854775807) (hf : -9223372036854775808 ≤ fr ∧ fr ≤ 9223372036854775807) (hw : -9223372036854775808 ≤ want ∧ want ≤ 9223372036854775807) :
    Calls Tryd.prog 3 #[.int .i64 n, .slice A xs.length ca, .int .i64 fr, .int .i64 want, .bool s] w fun e w' => e = .returned (.bool true) ∧ Below w.heap.size w w' := by
  have HT := Lib.hid hT
  have HX := Lib.hid hx
  clear hx
  have hmax : maxLen < 9223372036854775808 := by decide
  go_enter Tryd.func3, Tryd.ntmps3
  go_wp2_with fail
  refine (alive_calls w HT.out).mono ?_
  rintro e w1 ⟨rfl, hb1⟩
  have HT1 := Lib.hid (HT.out.below hb1)
  have HX1 := Lib.hid (HX.out.below hb1)
  have hz1 := hb1.size
  have hw0 : 0 < w1.heap.size := HT1.out.1
  by_cases hbig : 600 < n ∨ 200 < (xs.length : Int)
  · clear hT hz1 hw0
    by_cases h6 : 600 < n
    · go_wp2_with fail
      go_ret
      exact ⟨rfl, hb1⟩
    · have h7 : 200 < (xs.length : Int) := by omega
      go_wp2_with fail
      go_ret
      exact ⟨rfl, hb1⟩
  · by_cases hneg : n < 0
    · have g6 : ¬ 600 < n := by omega
      have g7 : ¬ 200 < (xs.length : Int) := by omega
      go_wp2_with fail
      refine (new_no w1 n (.inl hneg)).mono ?_
      rintro e w2 ⟨rfl, rfl⟩
      go_wp2_with fail
      go_ret
      exact ⟨rfl, hb1⟩
    · obtain ⟨m, rfl⟩ := Int.eq_ofNat_of_zero_le (Int.not_lt.1 hneg)
      have g6 : ¬ 600 < (m : Int) := by omega
      have g7 : ¬ 200 < (xs.length : Int) := by omega
      have g8 : m ≤ 600 := by omega
      have g9 : xs.length ≤ 1000000 := by omega
      have g0 : (0 : Int) ≤ (m : Int) := by omega
      clear hbig hn hT
      go_wp2_with fail
      refine (new_yes w1 m (by omega) hw0).mono ?_
      rintro e w2 ⟨p, g, rfl, hR, hp, hg, hb2⟩
      have HR2 := Lib.hid hR
      have HX2 := Lib.hid (HX1.out.below hb2)
      have hbb2 := below_then hb1 hb2
      have hz2 := hbb2.size
      have HPG := Lib.hid (And.intro hR.head.lt hR.row.lt)
      have HG := Lib.hid (And.intro hp hg)
      clear hR hb2 HX1 hb1 hp hg
      generalize nwords m = cc at HR2
      go_wp2_with (at_make; refine make_row _ rfl _ _ 28 rfl 4 Tryd.underlying28 (.bool false) 1 rfl info_bool _ _ m rfl rfl (by omega) (by decide) ?_)
      intro w3 hrow hlt3 hb3
      have hB3 : BoolsAt w3 w2.heap.size m (List.replicate m false) := by
        unfold BoolsAt
        rw [List.map_replicate]
        exact hrow
      have HB3 := Lib.hid hB3
      have HR3 := Lib.hid (HR2.out.below hb3)
      have HX3 := Lib.hid (HX2.out.below hb3)
      have hbb3 := below_then hbb2 hb3
      have hz3 := hbb3.size
      have hh : w.heap.size ≤ w2.heap.size := hz2
      have n1 : g ≠ w2.heap.size := by have := HPG.out.2; omega
      have n2 : p ≠ w2.heap.size := by have := HPG.out.1; omega
      have n3 : ∀ b o, xs ≠ [] → A = some ⟨b, o, none⟩ → b ≠ g ∧ b ≠ w2.heap.size := by
        rintro b o hne rfl
        obtain ⟨b', o', e, ht⟩ := HX.out 0 (List.length_pos_iff.2 hne)
        injection e with e
        injection e with e1 e2
        subst e1
        have := ht.lt
        have := HG.out.2
        omega
      have N3 := Lib.hid n3
      have hg4 : w.heap.size ≤ g := by have := HG.out.2; omega
      clear hrow hB3 hb3 HX2 hbb2 HR2 n3 HG HPG
      generalize w2.heap.size = h at *
      go_wp2_with fail
      refine (do_calls w3 p g cc h m m (List.replicate m false) A ca xs HR3.out HB3.out HX3.out g9 n1 n2 N3.out (by simp)).mono ?_
      rintro e w4 ⟨rfl, hD, hK⟩
      have hll : (doAll (List.replicate m false) xs).length = m := by rw [doAll_len]; simp
      generalize doAll (List.replicate m false) xs = l at hD hll
      have HR4 := Lib.hid hD.own
      have HB4 := Lib.hid hD.bools
      have hbb4 := below_kept hbb3 hK hz3 (by simp; omega)
      have hz4 := hbb4.size
      have HT4 := Lib.hid (HT.out.below hbb4)
      have Hll := Lib.hid hll
      clear hD hK HR3 HB3 HX3 hbb3 N3 HT1 HX HT hh n1 n2
      go_wp2_with fail
      have C1 := rlist_calls w4 h m l HB4.out (by omega)
      rw [hll] at C1
      refine C1.mono ?_
      rintro e w5 ⟨v, rfl, hL, hb5⟩
      obtain ⟨A5, c5, rfl, hI⟩ := hL.shape
      have HI5 := Lib.hid hI
      have HR5 := Lib.hid (HR4.out.below hb5)
      have HB5 := Lib.hid (HB4.out.below hb5)
      have HT5 := Lib.hid (HT4.out.below hb5)
      have hbb5 := below_then hbb4 hb5
      have hz5 := hbb5.size
      have hl5 : (listL l).length ≤ m := by rw [← hll]; exact listL_len l
      clear hL hI hb5 hbb4 HR4 HB4 HT4 C1
      go_upto_region 15 with fail
      obtain ⟨bb, hbb⟩ : ∃ bb, bb = decide (0 ≤ want ∧ want < ((listL l).length : Int)) := ⟨_, rfl⟩
      have Hbb := Lib.hid hbb
      clear hbb
      go_cut [15, 65] (fun s15 s65 wc => s15 = .int .i64 (-1) ∧ s65 = .bool bb ∧ w5 = wc)
      case first =>
        by_cases hw0 : 0 ≤ want
        · by_cases hw1 : want < ((listL l).length : Int)
          · go_wp2_with fail
            go_meet
            exact ⟨rfl, by rw [Hbb.out]; simp <;> omega, rfl⟩
          · go_wp2_with fail
            go_meet
            exact ⟨rfl, by rw [Hbb.out]; simp <;> omega, rfl⟩
        · go_wp2_with fail
          go_meet
          exact ⟨rfl, by rw [Hbb.out]; simp <;> omega, rfl⟩
      case rest =>
      obtain ⟨rfl, rfl, rfl⟩ := hcut
      rename_i hkk
      refine hkk _ _ ?_
      clear hkk
      go_cut [15] (fun s15 wc => s15 = .int .i64 (nthL l want) ∧ w5 = wc)
      case first =>
        by_cases hw1 : 0 ≤ want ∧ want < ((listL l).length : Int)
        · obtain ⟨q, hq⟩ := Int.eq_ofNat_of_zero_le hw1.1
          have hnv : nthL l want = (listL l).getD q 0 := by unfold nthL; rw [if_pos hw1, hq, Int.toNat_natCast]
          have Hnv := Lib.hid hnv
          obtain rfl : bb = true := by rw [Hbb.out, decide_eq_true hw1]
          have hw2 := hw1.2
          subst hq
          obtain ⟨b, o, rfl, hlt, hc⟩ := HI5.out q (by omega)
          clear hnv hw1
          generalize (listL l).getD q 0 = y at hc Hnv
          go_wp2_with fail
          go_meet
          exact ⟨by rw [Hnv.out], rfl⟩
        · have hnv : nthL l want = -1 := by unfold nthL; rw [if_neg hw1]
          obtain rfl : bb = false := by rw [Hbb.out, decide_eq_false hw1]
          go_wp2_with fail
          go_meet
          exact ⟨by rw [hnv], rfl⟩
      case rest =>
      obtain ⟨rfl, rfl⟩ := hcut
      go_wp2_with fail
      refine (words_calls w5 p g cc l HR5.out).mono ?_
      rintro e w6 ⟨g6, c6, rfl, hW6, hg6, hb6⟩
      have HW6 := Lib.hid hW6
      have HR6 := Lib.hid (HR5.out.below hb6)
      have HB6 := Lib.hid (HB5.out.below hb6)
      have HT6 := Lib.hid (HT5.out.below hb6)
      have HI6 := Lib.hid (HI5.out.below hb6)
      have hbb6 := below_then hbb5 hb6
      have hz6 := hbb6.size
      clear hW6 hb6 hbb5 HR5 HB5 HT5 HI5
      go_wp2_with fail
      have C2 := rwords_calls w6 h m l HB6.out (by omega)
      rw [hll] at C2
      refine C2.mono ?_
      rintro e w7 ⟨g7, c7, rfl, hW7, hg7, hb7⟩
      have HW7 := Lib.hid hW7
      have HU7 := Lib.hid (HW6.out.below hb7)
      have HR7 := Lib.hid (HR6.out.below hb7)
      have HB7 := Lib.hid (HB6.out.below hb7)
      have HT7 := Lib.hid (HT6.out.below hb7)
      have HI7 := Lib.hid (HI6.out.below hb7)
      have hbb7 := below_then hbb6 hb7
      have hz7 := hbb7.size
      clear hW7 hb7 hbb6 HR6 HB6 HT6 HI6 HW6 C2
      have hwl : (words l).length = nwords l.length := words_len l
      generalize hnw : (words l).length = nw at *
      go_wp2_with fail
      refine (len_calls w7 p g cc l HR7.out).mono ?_
      rintro e w8 ⟨rfl, rfl⟩
      go_wp2_with fail
      refine (count_calls w7 p g cc l HR7.out).mono ?_
      rw [cnt_list]
      rintro e w8 ⟨rfl, rfl⟩
      go_wp2_with fail
      refine (list_calls w7 p g cc l HR7.out HT7.out).mono ?_
      rintro e w8 ⟨v, rfl, hL, hb8⟩
      obtain ⟨A8, c8, rfl, hI⟩ := hL.shape
      have HI8 := Lib.hid hI
      have HJ8 := Lib.hid (HI7.out.below hb8)
      have HR8 := Lib.hid (HR7.out.below hb8)
      have HU8 := Lib.hid (HU7.out.below hb8)
      have HW8 := Lib.hid (HW7.out.below hb8)
      have HB8 := Lib.hid (HB7.out.below hb8)
      have HT8 := Lib.hid (HT7.out.below hb8)
      have hbb8 := below_then hbb7 hb8
      have hz8 := hbb8.size
      clear hL hI hb8 hbb7 HR7 HB7 HT7 HI7 HW7 HU7
      go_wp2_with fail
      refine (same_ints (listL l) (listL l) A8 A5 c8 c5 w8 HI8.out HJ8.out (Nat.le_trans hl5 (Nat.le_trans g8 (by decide)))).mono ?_
      rw [beq_self_eq_true]
      rintro e w9 ⟨rfl, nq, rfl⟩
      have HR9 := Lib.hid (HR8.out.drewN nq)
      have HU9 := Lib.hid (Row.drewN HU8.out nq)
      have HW9 := Lib.hid (Row.drewN HW8.out nq)
      have HB9 := Lib.hid (show BoolsAt (w8.drewN nq) h m l from Row.drewN HB8.out nq)
      have HT9 := Lib.hid (HT8.out.drewN nq)
      have hbb9 := below_drewN hbb8 nq
      have hz9 := hbb9.size
      generalize w8.drewN nq = w9 at HR9 HU9 HW9 HB9 HT9 hbb9 hz9 ⊢
      clear hbb8 HR8 HB8 HT8 HI8 HJ8 HW8 HU8
      go_wp2_with fail
      refine (first_walk w9 p g cc l fr s HR9.out HT9.out hf.2).mono ?_
      rintro e w10 ⟨rfl, rfl⟩
      go_wp2_with fail
      have C3 := rfirst_calls w9 h m l fr s HB9.out (by omega) hf.2
      rw [hll] at C3
      refine C3.mono ?_
      rintro e w10 ⟨rfl, rfl⟩
      clear C3
      go_wp2_with fail
      refine (nth_calls w9 p g cc l want HR9.out HT9.out hw.2).mono ?_
      rintro e w10 ⟨rfl, rfl⟩
      go_wp2_with fail
      refine (run_calls w9 p g cc l fr want HR9.out HT9.out hf.2 hw.2).mono ?_
      rintro e w10 ⟨rfl, rfl⟩
      go_wp2_with fail
      have C4 := rrun_calls w9 h m l fr want HB9.out (by omega) hf.2 hw.2
      rw [hll] at C4
      refine C4.mono ?_
      rintro e w10 ⟨rfl, rfl⟩
      clear C4
      go_wp2_with fail
      have ht3 : (fr < 0 ∧ testB l fr = false) ∨ ((m : Int) ≤ fr ∧ ¬ fr < 0 ∧ testB l fr = false) ∨ ∃ q : Nat, fr = q ∧ q < m ∧ testB l fr = l.getD q false ∧ w9.cell? ⟨h, q, none⟩ = some (.bool (l.getD q false)) := by
        by_cases k0 : fr < 0
        · exact .inl ⟨k0, by unfold testB; rw [inR_no l fr (.inl k0)]; rfl⟩
        · by_cases k1 : (m : Int) ≤ fr
          · exact .inr (.inl ⟨k1, k0, by unfold testB; rw [inR_no l fr (.inr (by omega))]; rfl⟩)
          · obtain ⟨q, rfl⟩ := Int.eq_ofNat_of_zero_le (Int.not_lt.1 k0)
            refine .inr (.inr ⟨q, rfl, by omega, ?_, HB9.out.cell (by omega)⟩)
            unfold testB
            rw [inR_nat l q (by omega), Int.toNat_natCast]
            rfl
      refine (test_calls w9 p g cc l fr HR9.out).mono ?_
      rintro e w10 ⟨rfl, nr, rfl⟩
      have HR10 := Lib.hid (HR9.out.drewN nr)
      have HU10 := Lib.hid (Row.drewN HU9.out nr)
      have HW10 := Lib.hid (Row.drewN HW9.out nr)
      have hbb10 := below_drewN hbb9 nr
      have hz10 := hbb10.size
      have ht4 : (fr < 0 ∧ testB l fr = false) ∨ ((m : Int) ≤ fr ∧ ¬ fr < 0 ∧ testB l fr = false) ∨ ∃ q : Nat, fr = q ∧ q < m ∧ testB l fr = l.getD q false ∧ (w9.drewN nr).cell? ⟨h, q, none⟩ = some (.bool (l.getD q false)) := ht3
      generalize w9.drewN nr = w10 at HR10 HU10 HW10 hbb10 hz10 ht4 ⊢
      clear ht3 hbb9 HR9 HB9 HT9 HW9 HU9
      rcases ht4 with ⟨k0, k1⟩ | ⟨k0, k1, k2⟩ | ⟨q, rfl, k0, k1, hc⟩
      · rw [k1]
        go_wp2_with fail
        refine (key_calls w10 p g cc l HR10.out).mono ?_
        rintro e w11 ⟨rfl, hb11⟩
        have hbb11 := below_then hbb10 hb11
        have hz11 := hbb11.size
        have HU11 := Lib.hid (HU10.out.below hb11)
        have HW11 := Lib.hid (HW10.out.below hb11)
        clear hb11 hbb10 HR10 HU10 HW10
        unfold keyV
        go_wp2_with fail
        have hgu := HU11.out.lt
        have hgw := HW11.out.lt
        have hba := (Below.refl w11.heap.size w11).alloc (Nat.le_refl _) (.cells #[.int .u64 (Bit.word l 0), .int .u64 (Bit.word l 1), .int .u64 (Bit.word l 2), .int .u64 (Bit.word l 3)] 46)
        have F1 := Lib.hid (fun k (hk : k < nwords m) => row_word (HU11.out.below hba) (k := k) (by rw [Hll.out]; exact hk))
        have F2 := Lib.hid (fun k (hk : k < nwords m) => row_word (HW11.out.below hba) (k := k) (by rw [Hll.out]; exact hk))
        have F3 := Lib.hid (box_word w11 l 46)
        have F4 := Lib.hid (fun k (hk : nwords m ≤ k) => word_out l k (by rw [Hll.out]; exact hk))
        have hbz := below_then hbb11 hba
        have hnwb : nwords m ≤ 10 := by unfold nwords; omega
        clear hgu hgw hba HU11 HW11 hbb11
        generalize (w11.alloc (.cells #[.int .u64 (Bit.word l 0), .int .u64 (Bit.word l 1), .int .u64 (Bit.word l 2), .int .u64 (Bit.word l 3)] 46)) = wz at F1 F2 F3 hbz ⊢
        generalize w11.heap.size = kb at F3 ⊢
        generalize Bit.word l = wd at F1 F2 F3 F4
        generalize nwords m = nw at F1 F2 F4 hnwb ⊢
        have Hbz := Lib.hid hbz
        clear hbz
        go_loopw [19] (fun i wr => ∃ k : Nat, k ≤ nw + 4 ∧ i = .int .i64 k ∧ ∃ nq, wr = wz.drewN nq) (fun i _ => nw + 4 - (intOf i).toNat)
        case atStart => exact ⟨0, by omega, rfl, 0, rfl⟩
        case round =>
          obtain ⟨k, hk, rfl, nt, rfl⟩ := hrel
          have hk0 : (0 : Int) ≤ (k : Int) := by omega
          by_cases hkn : k < nw
          · have c1 : (wz.drewN nt).cell? ⟨g6, k, none⟩ = some (.int .u64 (wd k)) := F1.out k hkn
            have c2 : (wz.drewN nt).cell? ⟨g7, k, none⟩ = some (.int .u64 (wd k)) := F2.out k hkn
            have hkn' : (k : Int) < (nw : Int) := by omega
            by_cases hk4 : k < 4
            · have c3 : (wz.drewN nt).cell? ⟨kb, k, none⟩ = some (.int .u64 (wd k)) := F3.out k hk4
              have hk4' : (k : Int) < 4 := by omega
              go_wp2_with fail
              go_roundw
              case rel => exact ⟨k + 1, by omega, by go_num, nt, rfl⟩
              case measure => simp [intOf]; omega
            · have hk4' : ¬ (k : Int) < 4 := by omega
              go_wp2_with fail
              go_roundw
              case rel => exact ⟨k + 1, by omega, by go_num, nt, rfl⟩
              case measure => simp [intOf]; omega
          · have hkn' : ¬ (k : Int) < (nw : Int) := by omega
            by_cases hk4 : k < 4
            · have c3 : (wz.drewN nt).cell? ⟨kb, k, none⟩ = some (.int .u64 0) := by rw [← F4.out k (by omega)]; exact F3.out k hk4
              have hk4' : (k : Int) < 4 := by omega
              go_wp2_with fail
              go_roundw
              case rel => exact ⟨k + 1, by omega, by go_num, nt, rfl⟩
              case measure => simp [intOf]; omega
            · have hk4' : ¬ (k : Int) < 4 := by omega
              go_wp2_with fail
              go_ret
              exact ⟨rfl, below_drewN Hbz.out _⟩
      · rw [k2]
        go_wp2_with fail
        refine (key_calls w10 p g cc l HR10.out).mono ?_
        rintro e w11 ⟨rfl, hb11⟩
        have hbb11 := below_then hbb10 hb11
        have hz11 := hbb11.size
        have HU11 := Lib.hid (HU10.out.below hb11)
        have HW11 := Lib.hid (HW10.out.below hb11)
        clear hb11 hbb10 HR10 HU10 HW10
        unfold keyV
        go_wp2_with fail
        have hgu := HU11.out.lt
        have hgw := HW11.out.lt
        have hba := (Below.refl w11.heap.size w11).alloc (Nat.le_refl _) (.cells #[.int .u64 (Bit.word l 0), .int .u64 (Bit.word l 1), .int .u64 (Bit.word l 2), .int .u64 (Bit.word l 3)] 46)
        have F1 := Lib.hid (fun k (hk : k < nwords m) => row_word (HU11.out.below hba) (k := k) (by rw [Hll.out]; exact hk))
        have F2 := Lib.hid (fun k (hk : k < nwords m) => row_word (HW11.out.below hba) (k := k) (by rw [Hll.out]; exact hk))
        have F3 := Lib.hid (box_word w11 l 46)
        have F4 := Lib.hid (fun k (hk : nwords m ≤ k) => word_out l k (by rw [Hll.out]; exact hk))
        have hbz := below_then hbb11 hba
        have hnwb : nwords m ≤ 10 := by unfold nwords; omega
        clear hgu hgw hba HU11 HW11 hbb11
        generalize (w11.alloc (.cells #[.int .u64 (Bit.word l 0), .int .u64 (Bit.word l 1), .int .u64 (Bit.word l 2), .int .u64 (Bit.word l 3)] 46)) = wz at F1 F2 F3 hbz ⊢
        generalize w11.heap.size = kb at F3 ⊢
        generalize Bit.word l = wd at F1 F2 F3 F4
        generalize nwords m = nw at F1 F2 F4 hnwb ⊢
        have Hbz := Lib.hid hbz
        clear hbz
        go_loopw [19] (fun i wr => ∃ k : Nat, k ≤ nw + 4 ∧ i = .int .i64 k ∧ ∃ nq, wr = wz.drewN nq) (fun i _ => nw + 4 - (intOf i).toNat)
        case atStart => exact ⟨0, by omega, rfl, 0, rfl⟩
        case round =>
          obtain ⟨k, hk, rfl, nt, rfl⟩ := hrel
          have hk0 : (0 : Int) ≤ (k : Int) := by omega
          by_cases hkn : k < nw
          · have c1 : (wz.drewN nt).cell? ⟨g6, k, none⟩ = some (.int .u64 (wd k)) := F1.out k hkn
            have c2 : (wz.drewN nt).cell? ⟨g7, k, none⟩ = some (.int .u64 (wd k)) := F2.out k hkn
            have hkn' : (k : Int) < (nw : Int) := by omega
            by_cases hk4 : k < 4
            · have c3 : (wz.drewN nt).cell? ⟨kb, k, none⟩ = some (.int .u64 (wd k)) := F3.out k hk4
              have hk4' : (k : Int) < 4 := by omega
              go_wp2_with fail
              go_roundw
              case rel => exact ⟨k + 1, by omega, by go_num, nt, rfl⟩
              case measure => simp [intOf]; omega
            · have hk4' : ¬ (k : Int) < 4 := by omega
              go_wp2_with fail
              go_roundw
              case rel => exact ⟨k + 1, by omega, by go_num, nt, rfl⟩
              case measure => simp [intOf]; omega
          · have hkn' : ¬ (k : Int) < (nw : Int) := by omega
            by_cases hk4 : k < 4
            · have c3 : (wz.drewN nt).cell? ⟨kb, k, none⟩ = some (.int .u64 0) := by rw [← F4.out k (by omega)]; exact F3.out k hk4
              have hk4' : (k : Int) < 4 := by omega
              go_wp2_with fail
              go_roundw
              case rel => exact ⟨k + 1, by omega, by go_num, nt, rfl⟩
              case measure => simp [intOf]; omega
            · have hk4' : ¬ (k : Int) < 4 := by omega
              go_wp2_with fail
              go_ret
              exact ⟨rfl, below_drewN Hbz.out _⟩
      · rw [k1]
        generalize l.getD q false = y at hc
        have k2 : (q : Int) < (m : Int) := by omega
        have k3 : (0 : Int) ≤ (q : Int) := by omega
        go_wp2_with fail
        refine (key_calls w10 p g cc l HR10.out).mono ?_
        rintro e w11 ⟨rfl, hb11⟩
        have hbb11 := below_then hbb10 hb11
        have hz11 := hbb11.size
        have HU11 := Lib.hid (HU10.out.below hb11)
        have HW11 := Lib.hid (HW10.out.below hb11)
        clear hb11 hbb10 HR10 HU10 HW10
        unfold keyV
        go_wp2_with fail
        have hgu := HU11.out.lt
        have hgw := HW11.out.lt
        have hba := (Below.refl w11.heap.size w11).alloc (Nat.le_refl _) (.cells #[.int .u64 (Bit.word l 0), .int .u64 (Bit.word l 1), .int .u64 (Bit.word l 2), .int .u64 (Bit.word l 3)] 46)
        have F1 := Lib.hid (fun k (hk : k < nwords m) => row_word (HU11.out.below hba) (k := k) (by rw [Hll.out]; exact hk))
        have F2 := Lib.hid (fun k (hk : k < nwords m) => row_word (HW11.out.below hba) (k := k) (by rw [Hll.out]; exact hk))
        have F3 := Lib.hid (box_word w11 l 46)
        have F4 := Lib.hid (fun k (hk : nwords m ≤ k) => word_out l k (by rw [Hll.out]; exact hk))
        have hbz := below_then hbb11 hba
        have hnwb : nwords m ≤ 10 := by unfold nwords; omega
        clear hgu hgw hba HU11 HW11 hbb11
        generalize (w11.alloc (.cells #[.int .u64 (Bit.word l 0), .int .u64 (Bit.word l 1), .int .u64 (Bit.word l 2), .int .u64 (Bit.word l 3)] 46)) = wz at F1 F2 F3 hbz ⊢
        generalize w11.heap.size = kb at F3 ⊢
        generalize Bit.word l = wd at F1 F2 F3 F4
        generalize nwords m = nw at F1 F2 F4 hnwb ⊢
        have Hbz := Lib.hid hbz
        clear hbz
        go_loopw [19] (fun i wr => ∃ k : Nat, k ≤ nw + 4 ∧ i = .int .i64 k ∧ ∃ nq, wr = wz.drewN nq) (fun i _ => nw + 4 - (intOf i).toNat)
        case atStart => exact ⟨0, by omega, rfl, 0, rfl⟩
        case round =>
          obtain ⟨k, hk, rfl, nt, rfl⟩ := hrel
          have hk0 : (0 : Int) ≤ (k : Int) := by omega
          by_cases hkn : k < nw
          · have c1 : (wz.drewN nt).cell? ⟨g6, k, none⟩ = some (.int .u64 (wd k)) := F1.out k hkn
            have c2 : (wz.drewN nt).cell? ⟨g7, k, none⟩ = some (.int .u64 (wd k)) := F2.out k hkn
            have hkn' : (k : Int) < (nw : Int) := by omega
            by_cases hk4 : k < 4
            · have c3 : (wz.drewN nt).cell? ⟨kb, k, none⟩ = some (.int .u64 (wd k)) := F3.out k hk4
              have hk4' : (k : Int) < 4 := by omega
              go_wp2_with fail
              go_roundw
              case rel => exact ⟨k + 1, by omega, by go_num, nt, rfl⟩
              case measure => simp [intOf]; omega
            · have hk4' : ¬ (k : Int) < 4 := by omega
              go_wp2_with fail
              go_roundw
              case rel => exact ⟨k + 1, by omega, by go_num, nt, rfl⟩
              case measure => simp [intOf]; omega
          · have hkn' : ¬ (k : Int) < (nw : Int) := by omega
            by_cases hk4 : k < 4
            · have c3 : (wz.drewN nt).cell? ⟨kb, k, none⟩ = some (.int .u64 0) := by rw [← F4.out k (by omega)]; exact F3.out k hk4
              have hk4' : (k : Int) < 4 := by omega
              go_wp2_with fail
              go_roundw
              case rel => exact ⟨k + 1, by omega, by go_num, nt, rfl⟩
              case measure => simp [intOf]; omega
            · have hk4' : ¬ (k : Int) < 4 := by omega
              go_wp2_with fail
              go_ret
              exact ⟨rfl, below_drewN Hbz.out _⟩
end Go.Proofs.YtknieebmcpgppaaDoor.Bit
