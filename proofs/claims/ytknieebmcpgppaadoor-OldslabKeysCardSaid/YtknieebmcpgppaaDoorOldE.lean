/- Slabs of the old layout: New, With, Clone. -/
import Derived.Test.YtknieebmcpgppaaDoorOldD
set_option linter.unusedSimpArgs false
namespace Go.Proofs.YtknieebmcpgppaaDoor.Old
open Go.RowKit Go.Proofs.YtknieebmcpgppaaDoor.Aid Go.Proofs.YtknieebmcpgppaaDoor.Bit
def newOk (b c : Int) : Prop := 0 ≤ b ∧ b % 1024 = 0 ∧ b ≤ 1047552 ∧ Tab.sizeV c ≠ 0
def newX (b c : Nat) : Sb := ⟨b, c, (Tab.sizeV c).toNat, List.replicate (1024 / (Tab.sizeV c).toNat) false⟩
theorem newOk_c {b c : Int} (h : newOk b c) : 0 ≤ c ∧ c < 16 := by
  have h1 := h.2.2.2
  unfold Tab.sizeV at h1
  split at h1
  · assumption
  · exact absurd rfl h1
theorem newX_ok {b c : Nat} (h : newOk b c) : OkB (newX b c) := by
  obtain ⟨_, _, h3, h4⟩ := h
  have hc := newOk_c ⟨by omega, by assumption, h3, h4⟩
  rcases Tab.sizeV_bounds (c : Int) with e | ⟨e1, e2⟩
  · exact absurd e h4
  · refine ⟨?_, ?_, ?_, ?_, ?_, ?_⟩
    · show b + 1024 ≤ 1048576
      omega
    · show c < 16
      omega
    · show 16 ≤ (Tab.sizeV c).toNat
      omega
    · show (Tab.sizeV c).toNat ≤ 512
      omega
    · simp [newX]
    · show Tab.sizeV c = (((Tab.sizeV c).toNat : Nat) : Int)
      omega
theorem and1023 (b : Nat) (h : b < 9223372036854775808) : Go.bits .and .i64 (b : Int) 1023 = ((b % 1024 : Nat) : Int) := by
  rw [show (1023 : Int) = ((1023 : Nat) : Int) from rfl, i64_and_nat _ _ (by omega) (by omega), show (1023 : Nat) = 2 ^ 10 - 1 from rfl, Nat.and_two_pow_sub_one_eq_mod]
set_option maxHeartbeats 1000000 in
theorem new_no (w : World) (b c : Int) (hb : b < 9223372036854775808) (h : ¬ newOk b c) : Calls Tryd.prog 30 #[.int .i64 b, .int .i64 c] w fun e w' => e = .returned (.tuple #[.pointer none, .int .i64 11]) ∧ Below w.heap.size w w' := by
  have HS := Lib.hid (Tab.slots_calls c w)
  have hs0 : Tab.slotsV c = 0 ↔ Tab.sizeV c = 0 := by
    unfold Tab.slotsV
    rcases Tab.sizeV_bounds c with e | ⟨e1, e2⟩
    · simp [e]
    · rw [if_neg (by omega)]
      constructor
      · intro e
        have : 2 ≤ 1024 / Tab.sizeV c := by rw [Int.le_ediv_iff_mul_le (by omega)]; omega
        omega
      · omega
  have HZ := Lib.hid hs0
  clear hs0
  generalize Tab.slotsV c = s at *
  by_cases h0 : b < 0
  · clear h hb
    go_enter Tryd.func30, Tryd.ntmps30
    go_wp2_with fail
    refine HS.out.mono ?_
    rintro e w1 ⟨rfl, hb⟩
    have H1 := Lib.hid hb
    clear hb
    go_wp2_with fail
    go_ret2
    exact ⟨rfl, H1.out⟩
  · obtain ⟨m, rfl⟩ := Int.eq_ofNat_of_zero_le (show 0 ≤ b by omega)
    have ha := and1023 m (by omega)
    have hm0 : (0 : Int) ≤ (m : Int) := by omega
    clear hb h0
    by_cases h1 : m % 1024 = 0
    · rw [h1] at ha
      by_cases h2 : (1047552 : Int) < (m : Int)
      · clear h h1
        go_enter Tryd.func30, Tryd.ntmps30
        go_wp2_with fail
        refine HS.out.mono ?_
        rintro e w1 ⟨rfl, hb⟩
        have H1 := Lib.hid hb
        clear hb
        go_wp2_with fail
        go_ret2
        exact ⟨rfl, H1.out⟩
      · have h3 : s = 0 := by
          refine HZ.out.2 ?_
          by_cases e : Tab.sizeV c = 0
          · exact e
          · exact absurd ⟨by omega, by omega, by omega, e⟩ h
        subst h3
        clear h h1
        go_enter Tryd.func30, Tryd.ntmps30
        go_wp2_with fail
        refine HS.out.mono ?_
        rintro e w1 ⟨rfl, hb⟩
        have H1 := Lib.hid hb
        clear hb
        go_wp2_with fail
        go_ret2
        exact ⟨rfl, H1.out⟩
    · have h3 : (((m % 1024 : Nat) : Int) == 0) = false := by rw [beq_eq_false_iff_ne]; omega
      clear h
      generalize m % 1024 = r at *
      go_enter Tryd.func30, Tryd.ntmps30
      go_wp2_with fail
      refine HS.out.mono ?_
      rintro e w1 ⟨rfl, hb⟩
      have H1 := Lib.hid hb
      clear hb
      go_wp2_with fail
      go_ret2
      exact ⟨rfl, H1.out⟩
set_option maxHeartbeats 1000000 in
theorem new_yes (w : World) (b c : Nat) (h : newOk b c) (hT : Tab w) : Calls Tryd.prog 30 #[.int .i64 b, .int .i64 c] w fun e w' => ∃ p F, e = .returned (.tuple #[.pointer (some ⟨p, 0, none⟩), .int .i64 0]) ∧ SlAt w' p F (newX b c) ∧ (∀ y ∈ F, w.heap.size ≤ y) ∧ Below w.heap.size w w' := by
  have hok := newX_ok h
  have HO := Lib.hid hok
  obtain ⟨hm1, hm2, _⟩ := hok.many
  have hsv : Tab.slotsV (c : Int) = ((newX b c).l.length : Int) := by
    have h1 := hok.size
    have h2 := hok.len
    have h3 := hok.z1
    unfold Tab.slotsV
    have h1' : Tab.sizeV (c : Int) = ((newX b c).z : Int) := h1
    rw [h1', if_neg (by omega), h2]
    rfl
  have HS := Lib.hid (Tab.slots_calls c w)
  rw [hsv] at HS
  have HZ := Lib.hid (fun w => Tab.size_calls c w)
  rw [show Tab.sizeV (c : Int) = ((newX b c).z : Int) from hok.size] at HZ
  have hbb : (newX b c).b = b := rfl
  have hcc : (newX b c).c = c := rfl
  have hll : (newX b c).l = List.replicate (newX b c).l.length false := by simp [newX]
  have HX := Lib.hid (And.intro hbb (And.intro hcc hll))
  have hb1 : (b : Int) ≤ 1047552 := h.2.2.1
  have hb2 : b % 1024 = 0 := by have := h.2.1; omega
  have ha := and1023 b (by omega)
  rw [hb2] at ha
  have HT := Lib.hid hT
  clear h hok hsv hbb hcc hll hT hb2
  generalize newX b c = x at *
  generalize hn : x.l.length = n at *
  clear hn
  have hn1 : ((n : Int) == 0) = false := by rw [beq_eq_false_iff_ne]; omega
  go_enter Tryd.func30, Tryd.ntmps30
  go_wp2_with fail
  refine HS.out.mono ?_
  rintro e w1 ⟨rfl, hb⟩
  have H1 := Lib.hid (And.intro hb (HT.out.below hb))
  clear hb
  go_wp2_with fail
  refine (Bit.new_yes w1 n (by omega) H1.out.2.1).mono ?_
  rintro e w2 ⟨r, g, rfl, hr, hr1, hg1, hb⟩
  have H2 := Lib.hid (And.intro hr (And.intro (Nat.le_trans H1.out.1.size hr1) (And.intro (Nat.le_trans H1.out.1.size hg1) (H1.out.1.trans (hb.mono H1.out.1.size)))))
  clear hr hr1 hg1 hb
  go_wp2_with fail
  refine (HZ.out w2).mono ?_
  rintro e w3 ⟨rfl, hb⟩
  have H3 := Lib.hid (And.intro (H2.out.1.below hb) (H2.out.2.2.2.trans (hb.mono H2.out.2.2.2.size)))
  clear hb
  go_wp2_with fail
  go_ret2
  have hl := RowAt.lts H3.out.1
  refine ⟨w3.heap.size, [w3.heap.size, r, g], rfl, ⟨HO.out, ⟨r, g, nwords n, ⟨?_, ?_, by omega, by omega⟩, by simp, by simp, by simp⟩, ?_⟩, ?_, H3.out.2.alloc H3.out.2.size _⟩
  · rw [HX.out.1, HX.out.2.1]
    exact Blk.new w3 _ _
  · rw [HX.out.2.2]
    exact H3.out.1.alloc _
  · intro y hy
    simp at hy ⊢
    omega
  · intro y hy
    have := H3.out.2.size
    have h1 := H2.out.2.1
    have h2 := H2.out.2.2.1
    simp at hy
    omega
theorem SlP.put {w w1 : World} {p rp g cp : Nat} {x : Sb} {F : List Nat} (h : SlP w p rp g cp x) (hF : SlAt w p F x) (m1 : p ∈ F) (m2 : rp ∈ F) (m3 : g ∈ F) {l : List Bool} (hl : l.length = x.l.length) (hr : RowAt w1 rp g cp l) (hK : Kept [g] w w1) : SlAt w1 p F { x with l := l } ∧ Kept F w w1 := by
  refine ⟨⟨hF.ok.with hl, ⟨rp, g, cp, ⟨h.head.kept hK (by simp; exact h.n2), hr, h.n1, h.n2⟩, m1, m2, m3⟩, fun y hy => Nat.lt_of_lt_of_le (hF.flt y hy) hK.size⟩, hK.mono fun y hy => ?_⟩
  simp at hy
  rw [hy]
  exact m3
theorem with_no (w : World) (b c : Int) (hb : b < 9223372036854775808) (h : ¬ newOk b c) (A : Option Addr) (n k : Nat) : Calls Tryd.prog 44 #[.int .i64 b, .int .i64 c, .slice A n k] w fun e w' => e = .returned (.tuple #[.pointer none, .int .i64 11]) ∧ Below w.heap.size w w' := by
  have HN := Lib.hid (new_no w b c hb h)
  clear h hb
  go_enter Tryd.func44, Tryd.ntmps44
  go_wp2_with fail
  refine HN.out.mono ?_
  rintro e w1 ⟨rfl, hb⟩
  have H1 := Lib.hid hb
  clear hb
  go_wp2_with fail
  go_ret2
  exact ⟨rfl, H1.out⟩
/-- What With answers. -/
def WithIs (w : World) (b c : Nat) (o : Option (List Bool)) (e : Ending) (w' : World) : Prop := match o with
  | none => e = .returned (.tuple #[.pointer none, .int .i64 10]) ∧ Below w.heap.size w w'
  | some l => ∃ p F, e = .returned (.tuple #[.pointer (some ⟨p, 0, none⟩), .int .i64 0]) ∧ SlAt w' p F { newX b c with l := l } ∧ (∀ y ∈ F, w.heap.size ≤ y) ∧ Below w.heap.size w w'
set_option maxHeartbeats 1000000 in
theorem with_yes (w : World) (b c : Nat) (h : newOk b c) (hT : Tab w) (A : Option Addr) (cc : Nat) (vs : List Int) (hA : Ints w .i64 A vs) (hl : vs.length ≤ 1000000) : Calls Tryd.prog 44 #[.int .i64 b, .int .i64 c, .slice A vs.length cc] w (WithIs w b c (withO (newX b c).l vs)) := by
  have HN := Lib.hid (new_yes w b c h hT)
  have HA := Lib.hid hA
  clear h hT hA
  go_enter Tryd.func44, Tryd.ntmps44
  go_wp2_with fail
  refine HN.out.mono ?_
  rintro e w1 ⟨p, F, rfl, hS, hF, hb⟩
  obtain ⟨rp, g, cp, h1, m1, m2, m3⟩ := hS.ex
  have H1 := Lib.hid (And.intro hS (And.intro hF hb))
  have HM := Lib.hid (And.intro m1 (And.intro m2 m3))
  have HP := Lib.hid h1
  clear h1 hS hF hb m1 m2 m3
  go_wp2_with fail
  go_loopw [23] (fun i wr => ∃ (k : Nat) (l : List Bool), i = .int .i64 k ∧ k ≤ vs.length ∧ SlP wr p rp g cp { newX b c with l := l } ∧ SlAt wr p F { newX b c with l := l } ∧ withO l (vs.drop k) = withO (newX b c).l vs ∧ Kept F w1 wr) (fun i _ => vs.length - (intOf i).toNat)
  case atStart => exact ⟨0, (newX b c).l, rfl, by omega, HP.out, H1.out.1, rfl, Kept.refl _ _⟩
  case round =>
    obtain ⟨k, l, rfl, hk, hP, hS, hga, hK⟩ := hrel
    obtain ⟨_, _, _, c3⟩ := hP.cells
    have HB := Lib.hid (H1.out.2.2.trans (hK.below H1.out.2.2.size H1.out.2.1))
    have HR := Lib.hid (And.intro hP (And.intro hS (And.intro hga hK)))
    clear hP hS hga hK
    by_cases hlt : k < vs.length
    · have hk0 : (0 : Int) ≤ (k : Int) := by omega
      have hk1 : (k : Int) < (vs.length : Int) := by omega
      have HST := Lib.hid (withO_step (l := l) hlt)
      obtain ⟨bb, o, rfl, _, ca⟩ := (HA.out.below HB.out) k hlt
      generalize vs.getD k 0 = a at ca HST
      go_wp2_with fail
      refine (set_calls wr rp g cp l a HR.out.1.row).mono ?_
      rintro e w2 ⟨rfl, hr2, hK2⟩
      have h2 := HR.out.1.put HR.out.2.1 HM.out.1 HM.out.2.1 HM.out.2.2 (setL_len _ _ _) hr2 hK2
      have hP2 : SlP w2 p rp g cp { newX b c with l := setL l a true } := ⟨HR.out.1.head.kept hK2 (by simp; exact HR.out.1.n2), hr2, HR.out.1.n1, HR.out.1.n2⟩
      have H2 := Lib.hid (And.intro hP2 (And.intro h2.1 (HR.out.2.2.2.trans h2.2)))
      clear hr2 hK2 h2 hP2
      have hga := HST.out
      rw [HR.out.2.2.1] at hga
      have HGA := Lib.hid hga
      clear hga HST
      cases hs : setB l a true with
      | true =>
        rw [hs, if_pos rfl] at HGA
        go_wp2_with fail
        go_roundw
        case rel => exact ⟨k + 1, _, by go_num, by omega, H2.out.1, H2.out.2.1, HGA.out.symm, H2.out.2.2⟩
        case measure => simp [intOf]; omega
      | false =>
        rw [hs, if_neg (by decide)] at HGA
        go_wp2_with fail
        go_ret2
        rw [HGA.out]
        exact ⟨rfl, H1.out.2.2.trans (H2.out.2.2.below H1.out.2.2.size H1.out.2.1)⟩
    · obtain rfl : k = vs.length := by omega
      have hga := HR.out.2.2.1
      rw [List.drop_length] at hga
      have HGA := Lib.hid (show some l = withO (newX b c).l vs from hga)
      clear hga hlt hk
      go_wp2_with fail
      go_ret2
      rw [← HGA.out]
      exact ⟨p, F, rfl, HR.out.2.1, H1.out.2.1, HB.out⟩
theorem clone_calls (w : World) (p : Nat) (F : List Nat) (x : Sb) (h : SlAt w p F x) : Calls Tryd.prog 51 #[.pointer (some ⟨p, 0, none⟩)] w fun e w' => ∃ q G, e = .returned (.pointer (some ⟨q, 0, none⟩)) ∧ SlAt w' q G x ∧ (∀ y ∈ G, w.heap.size ≤ y) ∧ Below w.heap.size w w' := by
  have HO := Lib.hid h.ok
  obtain ⟨rp, g, cp, h1, m1, m2, m3⟩ := h.ex
  obtain ⟨c0, c1, c2, c3⟩ := h1.cells
  have HP := Lib.hid h1
  clear h h1 m1 m2 m3
  go_enter Tryd.func51, Tryd.ntmps51
  go_upto_region 2 with fail
  have hb := (Below.refl w.heap.size w).alloc (Nat.le_refl _) (.cells #[.int .i64 x.b, .int .i64 x.c, .int .i64 x.z, .pointer (some ⟨rp, 0, none⟩)] ST)
  have HK := Lib.hid (Blk.new w #[.int .i64 x.b, .int .i64 x.c, .int .i64 x.z, .pointer (some ⟨rp, 0, none⟩)] ST)
  have HP1 := Lib.hid (And.intro (HP.out.below hb) hb)
  obtain ⟨_, _, _, d3⟩ := HP1.out.1.cells
  clear hb c0 c1 c2 c3
  generalize w.alloc (.cells #[.int .i64 x.b, .int .i64 x.c, .int .i64 x.z, .pointer (some ⟨rp, 0, none⟩)] ST) = w1 at *
  generalize hq : w.heap.size = q at HK ⊢
  have HQ := Lib.hid hq
  clear hq
  go_wp2_with fail
  refine (Bit.clone_calls w1 rp g cp x.l HP1.out.1.row).mono ?_
  rintro e w2 ⟨r, g2, c2, rfl, hr, hr1, hg1, hb⟩
  have H2 := Lib.hid (And.intro hr (And.intro hr1 (And.intro hg1 hb)))
  have HK2 := Lib.hid (HK.out.below hb)
  have hfz := (HK.out.below hb).free 3
  have hqr := Lib.hid (show q < r ∧ q < g2 from by
    have := HK.out.lt
    omega)
  clear hr hr1 hg1 hb d3
  have d3 := HK2.out.cell (o := 3) rfl
  go_wp2_with fail
  go_ret
  have hz := HP1.out.2
  rw [HQ.out] at hz
  have hz1 : q ≤ w1.heap.size := by
    have := HP1.out.2.size
    rw [HQ.out] at this
    exact this
  have hq1 := hqr.out
  rw [HQ.out]
  refine ⟨q, [q, r, g2], rfl, ⟨HO.out, ⟨r, g2, c2, ⟨HK2.out.set 3 _, ?_, by omega, by omega⟩, by simp, by simp, by simp⟩, ?_⟩, ?_, (hz.trans (H2.out.2.2.2.mono hz1)).setCell (p := ⟨q, 3, none⟩) (Nat.le_refl _) _⟩
  · have := H2.out.1
    exact ⟨this.ne, this.pos, this.head.other (by show r ≠ q; omega) _, this.row.other (by show g2 ≠ q; omega) _, this.small⟩
  · intro y hy
    have h1 := HK2.out.lt
    have h2 := RowAt.lts H2.out.1
    simp only [World.size_setCell]
    simp at hy
    omega
  · intro y hy
    simp at hy
    omega
end Go.Proofs.YtknieebmcpgppaaDoor.Old
