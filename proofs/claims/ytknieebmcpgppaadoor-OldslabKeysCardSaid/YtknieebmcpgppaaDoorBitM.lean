/- The walk of BitsMates: it returns true. -/
import Derived.Test.YtknieebmcpgppaaDoorBitX
namespace Go.Proofs.YtknieebmcpgppaaDoor.Bit
open Go.RowKit Go.Proofs.YtknieebmcpgppaaDoor.Aid
theorem first_at (l : List Bool) (j : Nat) (s : Bool) (hj : j < l.length) (hs : l.getD j false = s) : first l j s = (j : Int) := by
  unfold first
  obtain ⟨d, hd⟩ : ∃ d, l.length - j = d + 1 := ⟨l.length - j - 1, by omega⟩
  rw [hd, firstGo, if_pos hs]
theorem first_not (l : List Bool) (j : Nat) (s : Bool) (hs : l.getD j false ≠ s) : first l j s ≠ (j : Int) := by
  rcases first_is l j s with ⟨h, _⟩ | ⟨k, h, h1, h2, h3, h4⟩
  · omega
  · intro e
    have : k = j := by omega
    subst this
    exact hs h3
theorem first_bounds (l : List Bool) (j : Nat) (s : Bool) : -1 ≤ first l j s := by
  rcases first_is l j s with ⟨h, _⟩ | ⟨k, h, _⟩ <;> omega
theorem first_end (l : List Bool) (j : Nat) (s : Bool) (hj : l.length ≤ j) : first l j s = -1 := by
  unfold first
  rw [show l.length - j = 0 by omega, firstGo]
theorem cntTo_succ (l : List Bool) (j : Nat) : cntTo l (j + 1) = cntTo l j + (if l.getD j false = true then 1 else 0) := by
  unfold cntTo
  rw [cnt]
theorem cntTo_le (l : List Bool) : ∀ j, cntTo l j ≤ j
  | 0 => Nat.le_refl _
  | j + 1 => by rw [cntTo_succ]; have := cntTo_le l j; split <;> omega
set_option maxHeartbeats 8000000 in
set_option maxRecDepth 100000 in
theorem bits_mates (w : World) (n : Int) (A : Option Addr) (ca : Nat) (xs : List Ask) (hT : Tab w) (hx : Asks w A xs) (_ : xs.length ≤ maxLen) (hn : -9223372036854775808 ≤ n ∧ n ≤ 9223372036854775807) :
    Calls Tryd.prog 5 #[.int .i64 n, .slice A xs.length ca] w fun e w' => e = .returned (.bool true) ∧ Below w.heap.size w w' := by
  have HT := Lib.hid hT
  have HX := Lib.hid hx
  clear hx
  have hmax : maxLen < 9223372036854775808 := by decide
  go_enter Tryd.func5, Tryd.ntmps5
  go_wp2_with fail
  refine (alive_calls w HT.out).mono ?_
  rintro e w1 ⟨rfl, hb1⟩
  have HT1 := Lib.hid (HT.out.below hb1)
  have HX1 := Lib.hid (HX.out.below hb1)
  have hz1 := hb1.size
  have hw0 : 0 < w1.heap.size := HT1.out.1
  by_cases hbig : n < 0 ∨ 600 < n ∨ 300 < (xs.length : Int)
  · clear hT hz1 hw0
    by_cases h5 : n < 0
    · clear hbig
      go_wp2_with fail
      go_ret
      exact ⟨rfl, hb1⟩
    · by_cases h6 : 600 < n
      · clear hbig
        go_wp2_with fail
        go_ret
        exact ⟨rfl, hb1⟩
      · have h7 : 300 < (xs.length : Int) := by omega
        clear hbig
        go_wp2_with fail
        go_ret
        exact ⟨rfl, hb1⟩
  · obtain ⟨m, rfl⟩ := Int.eq_ofNat_of_zero_le (show 0 ≤ n by omega)
    have g6 : ¬ 600 < (m : Int) := by omega
    have g7 : ¬ 300 < (xs.length : Int) := by omega
    have g8 : m ≤ 600 := by omega
    have g9 : xs.length ≤ 1000000 := by omega
    have g0 : (0 : Int) ≤ (m : Int) := by omega
    clear hbig hn hT
    go_wp2_with fail
    refine (new_yes w1 m (by omega) hw0).mono ?_
    rintro e w2 ⟨p, g, rfl, hR, hp, hg, hb2⟩
    have HR2 := Lib.hid hR
    have HX2 := Lib.hid (HX1.out.below hb2)
    have hbb2 := below_then hb1 hb2
    have hz2 := hbb2.size
    have HPG := Lib.hid (And.intro hR.head.lt hR.row.lt)
    have HG := Lib.hid (And.intro hp hg)
    clear hR hb2 HX1 hb1 hp hg
    generalize nwords m = cc at HR2
    go_wp2_with (at_make; refine make_row _ rfl _ _ 28 rfl 4 Tryd.underlying28 (.bool false) 1 rfl info_bool _ _ m rfl rfl (by omega) (by decide) ?_)
    intro w3 hrow hlt3 hb3
    have hB3 : BoolsAt w3 w2.heap.size m (List.replicate m false) := by
      unfold BoolsAt
      rw [List.map_replicate]
      exact hrow
    have HB3 := Lib.hid hB3
    have HR3 := Lib.hid (HR2.out.below hb3)
    have HX3 := Lib.hid (HX2.out.below hb3)
    have hbb3 := below_then hbb2 hb3
    have hz3 := hbb3.size
    have hh : w.heap.size ≤ w2.heap.size := hz2
    have n1 : g ≠ w2.heap.size := by have := HPG.out.2; omega
    have n2 : p ≠ w2.heap.size := by have := HPG.out.1; omega
    have n3 : ∀ b o, xs ≠ [] → A = some ⟨b, o, none⟩ → b ≠ g ∧ b ≠ w2.heap.size := by
      rintro b o hne rfl
      obtain ⟨b', o', e, ht⟩ := HX.out 0 (List.length_pos_iff.2 hne)
      injection e with e
      injection e with e1 e2
      subst e1
      have := ht.lt
      have := HG.out.2
      omega
    have N3 := Lib.hid n3
    have hg4 : w.heap.size ≤ g := by have := HG.out.2; omega
    clear hrow hB3 hb3 HX2 hbb2 HR2 n3 HG HPG
    generalize w2.heap.size = h at *
    go_wp2_with fail
    refine (do_calls w3 p g cc h m m (List.replicate m false) A ca xs HR3.out HB3.out HX3.out g9 n1 n2 N3.out (by simp)).mono ?_
    rintro e w4 ⟨rfl, hD, hK⟩
    have hll : (doAll (List.replicate m false) xs).length = m := by rw [doAll_len]; simp
    generalize doAll (List.replicate m false) xs = l at hD hll
    have HR4 := Lib.hid hD.own
    have hbb4 := below_kept hbb3 hK hz3 (by simp; omega)
    have hz4 := hbb4.size
    have HT4 := Lib.hid (HT.out.below hbb4)
    have HBB := Lib.hid hbb4
    have Hll := Lib.hid hll
    clear hD hK HR3 HB3 HX3 hbb3 N3 HT1 HX HT hh n1 n2 hbb4 hll
    go_wp2_with fail
    go_loopw [7, 8] (fun a c wr => ∃ j : Nat, j ≤ m ∧ a = .int .i64 j ∧ c = .int .i64 (cntTo l j : Nat) ∧ RowAt wr p g cc l ∧ Tab wr ∧ Below w.heap.size w wr) (fun a _ _ => m - (intOf a).toNat)
    case atStart => exact ⟨0, by omega, rfl, rfl, HR4.out, HT4.out, HBB.out⟩
    case round =>
      obtain ⟨j, hj, rfl, rfl, hR, hTT, hBB⟩ := hrel
      have HRj := Lib.hid hR
      have HTj := Lib.hid hTT
      have HBj := Lib.hid hBB
      clear hR hTT hBB HR4 HT4 HBB
      have hj0 : (0 : Int) ≤ (j : Int) := by omega
      by_cases hlt : j < m
      · have hlt' : (j : Int) < (m : Int) := by omega
        have hll := Hll.out
        have C1 := first_walk wr p g cc l j true HRj.out HTj.out (by omega)
        have C2 := first_walk wr p g cc l j false HRj.out HTj.out (by omega)
        have C3 := test_calls wr p g cc l j HRj.out
        rw [Int.toNat_natCast] at C1 C2
        have htb : testB l (j : Int) = l.getD j false := by unfold testB; rw [inR_nat l j (by omega), Int.toNat_natCast]; rfl
        rw [htb] at C3
        by_cases hb : l.getD j false = true
        · have hf1 := first_at l j true (by omega) hb
          have hf2 := first_not l j false (by rw [hb]; simp)
          rw [hf1] at C1
          rw [hb] at C3
          generalize first l j false = f at C2 hf2
          have e1 : ((j : Int) == f) = false := by simpa using fun h : (j : Int) = f => hf2 h.symm
          have hn := nth_found l (cntTo l j) j (by omega) hb rfl
          have hcs := cntTo_succ l j
          rw [if_pos hb] at hcs
          have HC1 := Lib.hid C1
          have HC2 := Lib.hid C2
          have HC3 := Lib.hid C3
          have Hcs := Lib.hid hcs
          have hcl := cntTo_le l j
          have C4 := fun nr => nth_calls (wr.drewN nr) p g cc l (cntTo l j : Nat) (HRj.out.drewN nr) (HTj.out.drewN nr) (by omega)
          rw [hn] at C4
          have HC4 := Lib.hid C4
          clear C1 C2 C3 C4 hf1 hf2 hn hcs hll htb hb
          generalize hq : cntTo l j = q at HC4 Hcs hcl ⊢
          have hq0 : (0 : Int) ≤ (q : Int) := by omega
          have hq1 : (q : Int) ≤ 600 := by omega
          go_wp2_with fail
          refine HC1.out.mono ?_
          rintro e w6 ⟨rfl, rfl⟩
          go_wp2_with fail
          refine HC2.out.mono ?_
          rintro e w6 ⟨rfl, rfl⟩
          go_wp2_with fail
          refine HC3.out.mono ?_
          rintro e w6 ⟨rfl, nr, rfl⟩
          go_wp2_with fail
          refine (HC4.out nr).mono ?_
          rintro e w6 ⟨rfl, rfl⟩
          go_wp2_with fail
          go_roundw
          case rel => exact ⟨j + 1, by omega, by go_num, by rw [Hcs.out]; go_num, HRj.out.drewN nr, HTj.out.drewN nr, below_drewN HBj.out nr⟩
          case measure => simp [intOf]; omega
        · have hb : l.getD j false = false := by simpa using hb
          have hf2 := first_at l j false (by omega) hb
          have hf1 := first_not l j true (by rw [hb]; simp)
          rw [hf2] at C2
          rw [hb] at C3
          generalize first l j true = f at C1 hf1
          have e1 : (f == (j : Int)) = false := by simpa using hf1
          have e2 : (f != (j : Int)) = true := by simpa using hf1
          have hcs := cntTo_succ l j
          rw [if_neg (by rw [hb]; simp)] at hcs
          have HC1 := Lib.hid C1
          have HC2 := Lib.hid C2
          have HC3 := Lib.hid C3
          have Hcs := Lib.hid hcs
          clear C1 C2 C3 hf1 hf2 hcs hll htb hb
          go_wp2_with fail
          refine HC1.out.mono ?_
          rintro e w6 ⟨rfl, rfl⟩
          go_wp2_with fail
          refine HC2.out.mono ?_
          rintro e w6 ⟨rfl, rfl⟩
          go_wp2_with fail
          refine HC3.out.mono ?_
          rintro e w6 ⟨rfl, nr, rfl⟩
          go_wp2_with fail
          go_roundw
          case rel => exact ⟨j + 1, by omega, by go_num, by rw [Hcs.out]; rfl, HRj.out.drewN nr, HTj.out.drewN nr, below_drewN HBj.out nr⟩
          case measure => simp [intOf]; omega
      · obtain rfl : j = m := by omega
        have hcn : cntTo l j = cntL l := by unfold cntL; rw [Hll.out]
        have C1 := nth_calls wr p g cc l (cntTo l j : Nat) HRj.out HTj.out (by have := cntTo_le l j; omega)
        rw [nth_none l _ (.inr (by rw [hcn]; omega))] at C1
        have HC1 := Lib.hid C1
        have C2 := first_walk wr p g cc l j true HRj.out HTj.out (by omega)
        rw [Int.toNat_natCast, first_end l j true (by rw [Hll.out]; omega)] at C2
        have HC2 := Lib.hid C2
        have C3 := count_calls wr p g cc l HRj.out
        rw [← hcn] at C3
        have HC3 := Lib.hid C3
        clear C1 C2 C3 hcn
        generalize cntTo l j = q at HC1 HC3 ⊢
        go_wp2_with fail
        refine HC3.out.mono ?_
        rintro e w6 ⟨rfl, rfl⟩
        go_wp2_with fail
        refine HC1.out.mono ?_
        rintro e w6 ⟨rfl, rfl⟩
        go_wp2_with fail
        refine HC2.out.mono ?_
        rintro e w6 ⟨rfl, rfl⟩
        go_wp2_with fail
        go_ret
        exact ⟨rfl, HBj.out⟩
end Go.Proofs.YtknieebmcpgppaaDoor.Bit
