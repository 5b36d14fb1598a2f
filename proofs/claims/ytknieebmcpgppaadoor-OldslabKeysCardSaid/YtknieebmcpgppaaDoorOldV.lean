/- The document's With (layer 13); CopyInts. -/
import Derived.Test.YtknieebmcpgppaaDoorOldU
set_option linter.unusedSimpArgs false
namespace Go.Proofs.YtknieebmcpgppaaDoor.Old
open Go.RowKit Go.Proofs.YtknieebmcpgppaaDoor.Aid Go.Proofs.YtknieebmcpgppaaDoor.Bit
theorem rwith_no (w : World) (b c : Int) (h : ¬ newOk b c) (A : Option Addr) (n k : Nat) : Calls Tryd.prog 46 #[.int .i64 b, .int .i64 0, .int .i64 c, .int .i64 1048576, .slice A n k] w fun e w' => e = .returned (.tuple #[.pointer none, .int .i64 11]) ∧ Below w.heap.size w w' := by
  have HN := Lib.hid (rnew_no w b c h)
  clear h
  go_enter Tryd.func46, Tryd.ntmps46
  go_wp2_with fail
  refine HN.out.mono ?_
  rintro e w1 ⟨rfl, hb⟩
  have H1 := Lib.hid hb
  clear hb
  go_wp2_with fail
  go_ret2
  exact ⟨rfl, H1.out⟩
def RWithIs (w : World) (b c : Nat) (o : Option (List Bool)) (e : Ending) (w' : World) : Prop := match o with
  | none => e = .returned (.tuple #[.pointer none, .int .i64 10]) ∧ Below w.heap.size w w'
  | some l => ∃ q g cp, e = .returned (.tuple #[.pointer (some ⟨q, 0, none⟩), .int .i64 0]) ∧ RfP w' q g cp { newX b c with l := l } ∧ w.heap.size ≤ q ∧ w.heap.size ≤ g ∧ Below w.heap.size w w'
theorem RfP.at_ {w : World} {q g cp : Nat} {x : Sb} (h : RfP w q g cp x) {i : Nat} {b : Bool} : RfP (w.setCell ⟨g, i, none⟩ (.bool b)) q g cp { x with l := x.l.set i b } := ⟨by
    have := h.head.other (a := ⟨g, i, none⟩) h.ne (.bool b)
    rw [List.length_set]
    exact this, h.row.put i b, h.ne⟩
set_option maxHeartbeats 1000000 in
theorem rwith_yes (w : World) (b c : Nat) (h : newOk b c) (A : Option Addr) (cc : Nat) (vs : List Int) (hA : Ints w .i64 A vs) (hl : vs.length ≤ 1000000) : Calls Tryd.prog 46 #[.int .i64 b, .int .i64 0, .int .i64 c, .int .i64 1048576, .slice A vs.length cc] w (RWithIs w b c (withO (newX b c).l vs)) := by
  have HN := Lib.hid (rnew_yes w b c h)
  have HA := Lib.hid hA
  have hm := (newX_ok h).many.1
  clear h hA
  go_enter Tryd.func46, Tryd.ntmps46
  go_wp2_with fail
  refine HN.out.mono ?_
  rintro e w1 ⟨q, g, cp, rfl, hP, hq, hg, hb⟩
  have H1 := Lib.hid (And.intro hP (And.intro hq (And.intro hg hb)))
  clear hP hq hg hb
  go_wp2_with fail
  go_loopw [14] (fun i wr => ∃ (k : Nat) (l : List Bool), i = .int .i64 k ∧ k ≤ vs.length ∧ RfP wr q g cp { newX b c with l := l } ∧ l.length ≤ 64 ∧ withO l (vs.drop k) = withO (newX b c).l vs ∧ Kept [g] w1 wr) (fun i _ => vs.length - (intOf i).toNat)
  case atStart => exact ⟨0, (newX b c).l, rfl, by omega, H1.out.1, hm, rfl, Kept.refl _ _⟩
  case round =>
    obtain ⟨k, l, rfl, hk, hP, hll, hga, hK⟩ := hrel
    obtain ⟨_, _, _, c3⟩ := hP.cells
    have HB := Lib.hid (H1.out.2.2.2.trans (hK.below H1.out.2.2.2.size (by simp; exact H1.out.2.2.1)))
    have HR := Lib.hid (And.intro hP (And.intro hga hK))
    clear hP hga hK hm
    dsimp only at c3
    by_cases hlt : k < vs.length
    · have hk0 : (0 : Int) ≤ (k : Int) := by omega
      have hk1 : (k : Int) < (vs.length : Int) := by omega
      have hga := withO_step (l := l) hlt
      rw [HR.out.2.1] at hga
      have HGA := Lib.hid hga
      clear hga
      obtain ⟨bb, o, rfl, _, ca⟩ := (HA.out.below HB.out) k hlt
      generalize vs.getD k 0 = a at ca HGA
      by_cases h0 : a < 0
      · have hs : setB l a true = false := by unfold setB; rw [inR_no _ _ (.inl h0)]; rfl
        rw [hs, if_neg (by decide)] at HGA
        clear hs
        go_wp2_with fail
        go_ret2
        rw [HGA.out]
        exact ⟨rfl, HB.out⟩
      · obtain ⟨j, rfl⟩ := Int.eq_ofNat_of_zero_le (show 0 ≤ a by omega)
        clear h0
        have hj0 : (0 : Int) ≤ (j : Int) := by omega
        by_cases h2 : l.length ≤ j
        · have hs : setB l (j : Int) true = false := by unfold setB; rw [inR_no _ _ (.inr (by omega))]; rfl
          rw [hs, if_neg (by decide)] at HGA
          clear hs
          go_wp2_with fail
          go_ret2
          rw [HGA.out]
          exact ⟨rfl, HB.out⟩
        · have hjl : j < l.length := by omega
          have hj1 : (j : Int) < (l.length : Int) := by omega
          have ck := HR.out.1.row.cell hjl
          have hs : setB l (j : Int) true = !l.getD j false := by unfold setB; rw [inR_nat _ _ hjl]; simp
          have hs2 : setL l (j : Int) true = l.set j true := by unfold setL; rw [inR_nat _ _ hjl]; rfl
          rw [hs, hs2] at HGA
          clear hs hs2 h2
          dsimp only at ck
          cases hv : l.getD j false with
          | true =>
            rw [hv] at ck HGA
            rw [if_neg (by decide)] at HGA
            clear hv
            go_wp2_with fail
            go_ret2
            rw [HGA.out]
            exact ⟨rfl, HB.out⟩
          | false =>
            rw [hv] at ck HGA
            rw [if_pos (by decide)] at HGA
            have hfz := HR.out.1.row.free j
            have HW := Lib.hid (And.intro (HR.out.1.at_ (i := j) (b := true)) (HR.out.2.2.setCell (p := ⟨g, j, none⟩) (.inl (by simp)) (.bool true)))
            clear hv
            go_wp2_with fail
            go_roundw
            case rel => exact ⟨k + 1, l.set j true, by go_num, by omega, HW.out.1, by rw [List.length_set]; exact hll, HGA.out.symm, HW.out.2⟩
            case measure => simp [intOf]; omega
    · obtain rfl : k = vs.length := by omega
      have hga := HR.out.2.1
      rw [List.drop_length] at hga
      have HGA := Lib.hid (show some l = withO (newX b c).l vs from hga)
      clear hga hlt hk
      go_wp2_with fail
      go_ret2
      rw [← HGA.out]
      exact ⟨q, g, cp, rfl, HR.out.1, H1.out.2.1, H1.out.2.2.1, HB.out⟩
theorem copy_calls (w : World) (A : Option Addr) (c : Nat) (vs : List Int) (hA : Ints w .i64 A vs) (hc : A = none → c = 0) (hl : vs.length ≤ 1000000) : Calls Tryd.prog 45 #[.slice A vs.length c] w fun e w' => ∃ v, e = .returned v ∧ Aid.Own w' w.heap.size 3 .i64 v vs ∧ Below w.heap.size w w' := by
  have HA := Lib.hid (And.intro hA hc)
  clear hA hc
  go_enter Tryd.func45, Tryd.ntmps45
  go_wp2_with (at_builtin; refine append_any rfl _ _ 30 rfl w.heap.size 3 .i64 8 Tryd.underlying30 info_int _ [] rfl (Own.lit0 w w.heap.size (Nat.le_refl _) 3 .i64) vs A _ c rfl rfl HA.out.2 (HA.out.1.below ((Below.refl _ _).alloc (Nat.le_refl _) _)) (by simp; omega) (by simp; omega) (by simp) ?_)
  intro v' w' hown hb _ _
  have H1 := Lib.hid (And.intro hown (((Below.refl w.heap.size w).alloc (Nat.le_refl _) (.cells #[] 3)).trans hb))
  clear hown hb
  go_wp2_with fail
  go_ret
  exact ⟨v', rfl, H1.out⟩
end Go.Proofs.YtknieebmcpgppaaDoor.Old
