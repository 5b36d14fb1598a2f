/- Slabs of the old layout: give, Give, GiveAll, Clone. -/
import Derived.Test.YtknieebmcpgppaaDoorOldC
set_option linter.unusedSimpArgs false
namespace Go.Proofs.YtknieebmcpgppaaDoor.Old
open Go.RowKit Go.Proofs.YtknieebmcpgppaaDoor.Aid Go.Proofs.YtknieebmcpgppaaDoor.Bit
/-- What GiveAll leaves. -/
def allX (x : Sb) (vs : List Int) : Sb := if (giveAll x x.l vs).1 = 0 then { x with l := (giveAll x x.l vs).2 } else x
theorem allX_no {x : Sb} {vs : List Int} {e : Int} {l : List Bool} (h : (e, l) = giveAll x x.l vs) (he : e ≠ 0) : allX x vs = x := by
  unfold allX
  rw [← h, if_neg he]
theorem allX_yes {x : Sb} {vs : List Int} {l : List Bool} (h : giveAll x x.l vs = (0, l)) : allX x vs = { x with l := l } := by
  unfold allX
  rw [h, if_pos rfl]
section
variable (w : World) (p : Nat) (F : List Nat) (x : Sb) (h : SlAt w p F x)
include h
theorem grow_calls (r g2 c2 : Nat) (l : List Bool) (hr : RowAt w r g2 c2 l) (a : Int) : Calls Tryd.prog 62 #[.pointer (some ⟨p, 0, none⟩), .pointer (some ⟨r, 0, none⟩), .int .i64 a] w fun e w' => e = .returned (.int .i64 (giveE x l a)) ∧ RowAt w' r g2 c2 (giveL x l a) ∧ Kept [g2] w w' := by
  have HS := Lib.hid (slot_calls w p F x h a)
  have HR := Lib.hid hr
  clear h hr
  cases ho : slotO x a with
  | none =>
    rw [ho] at HS
    rw [show giveE x l a = 12 by unfold giveE; rw [ho], show giveL x l a = l by unfold giveL; rw [ho]]
    go_enter Tryd.func62, Tryd.ntmps62
    go_wp2_with fail
    refine HS.out.mono ?_
    rintro e w1 ⟨rfl, hb⟩
    have H1 := Lib.hid (And.intro (HR.out.below hb) (Kept.of_below hb [g2]))
    clear hb
    rw [show slotV none = -1 from rfl, show slotE none = 12 from rfl]
    go_wp2_with fail
    go_ret
    exact ⟨rfl, H1.out⟩
  | some k =>
    rw [ho] at HS
    rw [show giveL x l a = setL l k false by unfold giveL; rw [ho]]
    have hE : giveE x l a = if setB l k false = true then 0 else 19 := by unfold giveE; rw [ho]
    cases hs : setB l (k : Int) false with
    | false =>
      rw [hE, if_neg (by rw [hs]; decide)]
      clear hE
      go_enter Tryd.func62, Tryd.ntmps62
      go_wp2_with fail
      refine HS.out.mono ?_
      rintro e w1 ⟨rfl, hb⟩
      have H1 := Lib.hid (And.intro (HR.out.below hb) (Kept.of_below hb [g2]))
      clear hb
      rw [show slotV (some k) = (k : Int) from rfl, show slotE (some k) = 0 from rfl]
      go_wp2_with fail
      refine (clear_calls w1 r g2 c2 l (k : Int) H1.out.1).mono ?_
      rintro e w2 ⟨rfl, hr2, hK⟩
      have H2 := Lib.hid (And.intro hr2 (H1.out.2.trans hK))
      clear hr2 hK H1
      rw [hs]
      go_wp2_with fail
      go_ret
      exact ⟨rfl, H2.out⟩
    | true =>
      rw [hE, if_pos hs]
      clear hE
      go_enter Tryd.func62, Tryd.ntmps62
      go_wp2_with fail
      refine HS.out.mono ?_
      rintro e w1 ⟨rfl, hb⟩
      have H1 := Lib.hid (And.intro (HR.out.below hb) (Kept.of_below hb [g2]))
      clear hb
      rw [show slotV (some k) = (k : Int) from rfl, show slotE (some k) = 0 from rfl]
      go_wp2_with fail
      refine (clear_calls w1 r g2 c2 l (k : Int) H1.out.1).mono ?_
      rintro e w2 ⟨rfl, hr2, hK⟩
      have H2 := Lib.hid (And.intro hr2 (H1.out.2.trans hK))
      clear hr2 hK H1
      rw [hs]
      go_wp2_with fail
      go_ret
      exact ⟨rfl, H2.out⟩
theorem give_calls (a : Int) : Calls Tryd.prog 41 #[.pointer (some ⟨p, 0, none⟩), .int .i64 a] w fun e w' => e = .returned (.int .i64 (giveE x x.l a)) ∧ SlAt w' p F { x with l := giveL x x.l a } ∧ Kept F w w' := by
  have HS := Lib.hid h
  obtain ⟨rp, g, cp, h1, m1, m2, m3⟩ := h.ex
  have H := Lib.hid (And.intro h1 (And.intro m1 (And.intro m2 m3)))
  obtain ⟨_, _, _, c3⟩ := h1.cells
  have HG := Lib.hid (grow_calls w p F x h rp g cp x.l h1.row a)
  clear h h1 m1 m2 m3
  go_enter Tryd.func41, Tryd.ntmps41
  go_wp2_with fail
  refine HG.out.mono ?_
  rintro e w1 ⟨rfl, hr, hK⟩
  have H1 := Lib.hid (show SlAt w1 p F { x with l := giveL x x.l a } ∧ Kept F w w1 from by
    obtain ⟨h1, m1, m2, m3⟩ := H.out
    refine ⟨⟨HS.out.ok.with (giveL_len _ _ _), ⟨rp, g, cp, ⟨h1.head.kept hK (by simp; exact h1.n2), hr, h1.n1, h1.n2⟩, m1, m2, m3⟩, fun y hy => Nat.lt_of_lt_of_le (HS.out.flt y hy) hK.size⟩, hK.mono fun y hy => ?_⟩
    simp at hy
    rw [hy]
    exact m3)
  clear hr hK
  go_wp2_with fail
  go_ret
  exact ⟨rfl, H1.out⟩
set_option maxHeartbeats 1000000 in
theorem all_calls (A : Option Addr) (c : Nat) (vs : List Int) (hA : Ints w .i64 A vs) (hl : vs.length ≤ 1000000) : Calls Tryd.prog 58 #[.pointer (some ⟨p, 0, none⟩), .slice A vs.length c] w fun e w' => e = .returned (.int .i64 (giveAll x x.l vs).1) ∧ Slw w p F (allX x vs) w' := by
  have HS := Lib.hid (And.intro h hA)
  obtain ⟨rp, g, cp, h1, m1, m2, m3⟩ := h.ex
  have H := Lib.hid (And.intro h1 (And.intro m1 (And.intro m2 m3)))
  obtain ⟨_, _, _, c3⟩ := h1.cells
  have HC := Lib.hid (clone_calls w rp g cp x.l h1.row)
  clear h h1 m1 m2 m3 hA
  go_enter Tryd.func58, Tryd.ntmps58
  go_wp2_with fail
  refine HC.out.mono ?_
  rintro e w1 ⟨r, g2, c2, rfl, hr, hr1, hg1, hb⟩
  have H1 := Lib.hid (And.intro hr (And.intro hr1 (And.intro hg1 hb)))
  clear hr hr1 hg1 hb c3
  go_wp2_with fail
  go_loopw [16] (fun i wr => ∃ (k : Nat) (l : List Bool), i = .int .i64 k ∧ k ≤ vs.length ∧ RowAt wr r g2 c2 l ∧ l.length = x.l.length ∧ giveAll x l (vs.drop k) = giveAll x x.l vs ∧ Kept [g2] w1 wr) (fun i _ => vs.length - (intOf i).toNat)
  case atStart => exact ⟨0, x.l, rfl, by omega, H1.out.1, rfl, rfl, Kept.refl _ _⟩
  case round =>
    obtain ⟨k, l, rfl, hk, hr, hll, hga, hK⟩ := hrel
    have HR := Lib.hid (And.intro hr (And.intro hll (And.intro hga hK)))
    have HB := Lib.hid (show SlAt wr p F x ∧ Ints wr .i64 A vs ∧ Below w.heap.size w wr from by
      have hb := H1.out.2.2.2.trans (hK.below H1.out.2.2.2.size (by simp; exact H1.out.2.2.1))
      exact ⟨HS.out.1.below hb, HS.out.2.below hb, hb⟩)
    clear hr hll hga hK
    by_cases hlt : k < vs.length
    · have hk0 : (0 : Int) ≤ (k : Int) := by omega
      have hk1 : (k : Int) < (vs.length : Int) := by omega
      have HST := Lib.hid (giveAll_step x (l := l) hlt)
      obtain ⟨b, o, rfl, _, ca⟩ := HB.out.2.1 k hlt
      generalize vs.getD k 0 = a at ca HST
      go_wp2_with fail
      refine (grow_calls wr p F x HB.out.1 r g2 c2 l HR.out.1 a).mono ?_
      rintro e w2 ⟨rfl, hr2, hK2⟩
      have H2 := Lib.hid (And.intro hr2 (HR.out.2.2.2.trans hK2))
      clear hr2 hK2
      by_cases hE : giveE x l a = 0
      · have hga := HST.out
        rw [if_pos hE, HR.out.2.2.1] at hga
        have HGA := Lib.hid hga
        rw [hE]
        clear hga hE
        go_wp2_with fail
        go_roundw
        case rel => exact ⟨k + 1, _, by go_num, by omega, H2.out.1, (giveL_len _ _ _).trans HR.out.2.1, HGA.out.symm, H2.out.2⟩
        case measure => simp [intOf]; omega
      · have hga := HST.out
        rw [if_neg hE, HR.out.2.2.1] at hga
        have HE := Lib.hid (And.intro hE hga)
        have hE2 : (giveE x l a != 0) = true := by simpa using hE
        clear hga hE
        generalize giveE x l a = te at HE hE2 ⊢
        go_wp2_with fail
        go_ret
        rw [allX_no HE.out.2.symm HE.out.1, HE.out.2]
        refine ⟨rfl, ?_⟩
        have hb := H1.out.2.2.2.trans (H2.out.2.below H1.out.2.2.2.size (by simp; exact H1.out.2.2.1))
        exact slw_same HS.out.1 hb
    · obtain rfl : k = vs.length := by omega
      have hga := HR.out.2.2.1
      rw [List.drop_length] at hga
      have hga2 : giveAll x x.l vs = (0, l) := hga.symm
      have HGA := Lib.hid hga2
      obtain ⟨h1, m1, m2, m3⟩ := H.out
      have hp := HS.out.1.flt p m1
      have hc3 := (h1.below HB.out.2.2).cells.2.2.2
      have hfz := (h1.below HB.out.2.2).head.free 3
      have hpr : p ≠ r := by have := H1.out.2.1; omega
      have hpg : p ≠ g2 := by have := H1.out.2.2.1; omega
      have HZ := Lib.hid (And.intro hp (And.intro hpr hpg))
      clear hga hga2 h1 m1 m2 m3 hp hpr hpg hlt hk
      go_wp2_with fail
      go_ret
      rw [allX_yes HGA.out, HGA.out]
      have hb0 := HR.out.2.2.2
      have hbz := HB.out.2.2.size
      refine ⟨rfl, [p, r, g2], ⟨HS.out.1.ok.with HR.out.2.1, ⟨r, g2, c2, ⟨?_, ?_, HZ.out.2.1, HZ.out.2.2⟩, by simp, by simp, by simp⟩, ?_⟩, ?_, ?_⟩
      · exact (H.out.1.below HB.out.2.2).head.set 3 _
      · have := HR.out.1
        exact ⟨this.ne, this.pos, this.head.other (by show r ≠ p; exact fun e => HZ.out.2.1 e.symm) _, this.row.other (by show g2 ≠ p; exact fun e => HZ.out.2.2 e.symm) _, this.small⟩
      · intro y hy
        rw [World.size_setCell]
        have h1 := HR.out.1.head.lt
        have h2 := HR.out.1.row.lt
        have h3 := HZ.out.1
        simp at hy
        omega
      · exact (Kept.of_below HB.out.2.2 F).setCell (p := ⟨p, 3, none⟩) (.inl H.out.2.1) _
      · intro y hy
        simp at hy
        rcases hy with rfl | rfl | rfl
        · exact .inl H.out.2.1
        · exact .inr H1.out.2.1
        · exact .inr H1.out.2.2.1
end
end Go.Proofs.YtknieebmcpgppaaDoor.Old
