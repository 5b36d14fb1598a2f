/- OldslabCalls: the walk. -/
import Derived.Test.YtknieebmcpgppaaDoorOldN
set_option linter.unusedSimpArgs false
namespace Go.Proofs.YtknieebmcpgppaaDoor.Old
open Go.RowKit Go.Proofs.YtknieebmcpgppaaDoor.Aid Go.Proofs.YtknieebmcpgppaaDoor.Bit
set_option maxHeartbeats 8000000 in
set_option maxRecDepth 100000 in
theorem calls_great (w : World) (b c : Int) (A1 : Option Addr) (c1 : Nat) (vs : List Int) (A2 : Option Addr) (c2 : Nat) (xs : List Cl) (hT : Tab w) (hx : Cls w A2 xs) (hl : xs.length ≤ maxLen) (hg : greatB xs = true ∨ 200 < vs.length) :
    Calls Tryd.prog 8 #[.int .i64 b, .int .i64 c, .slice A1 vs.length c1, .slice A2 xs.length c2] w fun e w' => e = .returned (.bool true) ∧ Below w.heap.size w w' := by
  have HT := Lib.hid hT
  have HG := Lib.hid (fun W hb => great_calls W A2 c2 xs (hx.below hb) hl)
  clear hT hx hl
  go_enter Tryd.func8, Tryd.ntmps8
  go_wp2_with fail
  refine (alive_calls w HT.out).mono ?_
  rintro e w1 ⟨rfl, hb1⟩
  have H1 := Lib.hid hb1
  clear hb1
  go_wp2_with fail
  refine (HG.out w1 H1.out).mono ?_
  rintro e w2 ⟨rfl, rfl⟩
  cases hgb : greatB xs with
  | true =>
    clear hg
    go_wp2_with fail
    go_ret
    exact ⟨rfl, H1.out⟩
  | false =>
    have h2 : (200 : Int) < (vs.length : Int) := by
      rcases hg with h | h
      · rw [hgb] at h
        cases h
      · omega
    clear hg
    go_wp2_with fail
    go_ret
    exact ⟨rfl, H1.out⟩
set_option maxHeartbeats 8000000 in
set_option maxRecDepth 100000 in
theorem calls_no (w : World) (b c : Int) (A1 : Option Addr) (c1 : Nat) (vs : List Int) (A2 : Option Addr) (c2 : Nat) (xs : List Cl) (hT : Tab w) (hb : b < 9223372036854775808) (hv : Nums w A1 c1 vs) (hx : Cls w A2 xs) (hl : xs.length ≤ maxLen) (hg : greatB xs = false) (h200 : vs.length ≤ 200) (hn : ¬ newOk b c) :
    Calls Tryd.prog 8 #[.int .i64 b, .int .i64 c, .slice A1 vs.length c1, .slice A2 xs.length c2] w fun e w' => e = .returned (.bool true) ∧ Below w.heap.size w w' := by
  have HT := Lib.hid (And.intro hT hv)
  have HG := Lib.hid (fun W hb => great_calls W A2 c2 xs (hx.below hb) hl)
  rw [hg] at HG
  have HN := Lib.hid (fun W => new_no W b c hb hn)
  have HR := Lib.hid (fun W => rnew_no W b c hn)
  have HW := Lib.hid (fun W A n k => with_no W b c hb hn A n k)
  have HRW := Lib.hid (fun W A n k => rwith_no W b c hn A n k)
  have h2 : ¬ (200 : Int) < (vs.length : Int) := by omega
  clear hT hx hl hv hb hn hg
  go_enter Tryd.func8, Tryd.ntmps8
  go_wp2_with fail
  refine (alive_calls w HT.out.1).mono ?_
  rintro e w1 ⟨rfl, hb1⟩
  have H1 := Lib.hid hb1
  clear hb1
  go_wp2_with fail
  refine (HG.out w1 H1.out).mono ?_
  rintro e w2 ⟨rfl, rfl⟩
  go_wp2_with fail
  refine (copy_calls w1 A1 c1 vs (HT.out.2.below H1.out).1 (HT.out.2.below H1.out).2 (by omega)).mono ?_
  rintro e w2 ⟨v, rfl, hown, hb⟩
  obtain ⟨A3, c3, rfl, _⟩ := hown.shape
  have H2 := Lib.hid (below_then H1.out hb)
  clear hown hb H1
  go_wp2_with fail
  refine (HW.out w2 A3 _ c3).mono ?_
  rintro e w3 ⟨rfl, hb⟩
  have H3 := Lib.hid (below_then H2.out hb)
  clear hb H2
  go_wp2_with fail
  refine (HRW.out w3 A1 _ c1).mono ?_
  rintro e w4 ⟨rfl, hb⟩
  have H4 := Lib.hid (below_then H3.out hb)
  clear hb H3
  go_wp2_with fail
  refine (HN.out w4).mono ?_
  rintro e w5 ⟨rfl, hb⟩
  have H5 := Lib.hid (below_then H4.out hb)
  clear hb H4
  go_wp2_with fail
  refine (HR.out w5).mono ?_
  rintro e w6 ⟨rfl, hb⟩
  have H6 := Lib.hid (below_then H5.out hb)
  clear hb H5
  go_wp2_with fail
  go_ret
  exact ⟨rfl, H6.out⟩
theorem great_no {xs : List Cl} (h : greatB xs = false) : xs.length ≤ 200 ∧ ∀ k, k < xs.length → (xs.getD k cl0).l.length ≤ 200 := by
  unfold greatB at h
  rw [Bool.or_eq_false_iff] at h
  obtain ⟨h1, h2⟩ := h
  refine ⟨by simpa using h1, fun k hk => ?_⟩
  have h3 := List.any_eq_false.1 h2 (xs.getD k cl0) (by rw [List.getD_eq_getElem?_getD, List.getElem?_eq_getElem hk]; exact List.getElem_mem hk)
  simpa using h3
theorem rf_of {w : World} {q g cp : Nat} {x : Sb} (h : RfP w q g cp x) (hok : OkB x) : RfAt w q [q, g] x := ⟨hok, ⟨g, cp, h, by simp, by simp⟩, fun y hy => by
  have h1 := h.head.lt
  have h2 := h.row.lt
  simp at hy
  omega⟩
theorem Did.len {x : Sb} {cl : Cl} {x' : Sb} {out : List Int} {e : Int} (h : Did x cl x' out e) (hok : OkB x) : out.length ≤ 64 := by
  rcases h with ⟨_, _, rfl, _⟩ | ⟨_, _, rfl, _⟩ | ⟨_, i, hi, _, rfl, _⟩ | ⟨_, _, rfl, _⟩
  · simp
  · simp
  · have h1 := (stops_le i fun j hj => (hi.2 j hj).2).2
    have h2 := hok.many.1
    rw [sm_len]
    omega
  · simp
set_option maxHeartbeats 8000000 in
set_option maxRecDepth 100000 in
theorem calls_yes (w : World) (b c : Nat) (A1 : Option Addr) (c1 : Nat) (vs : List Int) (A2 : Option Addr) (c2 : Nat) (xs : List Cl) (hT : Tab w) (hv : Nums w A1 c1 vs) (hx : Cls w A2 xs) (hl : xs.length ≤ maxLen) (hg : greatB xs = false) (h200 : vs.length ≤ 200) (hn : newOk b c) :
    Calls Tryd.prog 8 #[.int .i64 b, .int .i64 c, .slice A1 vs.length c1, .slice A2 xs.length c2] w fun e w' => e = .returned (.bool true) ∧ Below w.heap.size w w' := by
  have HT := Lib.hid (And.intro hT (And.intro hv hx))
  have HG := Lib.hid (fun W hb => great_calls W A2 c2 xs (hx.below hb) hl)
  have HGN := Lib.hid (great_no hg)
  have hxl := (great_no hg).1
  rw [hg] at HG
  have HN := Lib.hid (fun W hT => new_yes W b c hn hT)
  have HR := Lib.hid (fun W => rnew_yes W b c hn)
  have HW := Lib.hid (fun W hT A k hA => with_yes W b c hn hT A k vs hA (by omega))
  have HRW := Lib.hid (fun W A k hA => rwith_yes W b c hn A k vs hA (by omega))
  have hok := newX_ok hn
  have HOK := Lib.hid hok
  have h2 : ¬ (200 : Int) < (vs.length : Int) := by omega
  have HWL := Lib.hid (fun l (h : withO (newX b c).l vs = some l) => withO_len vs h)
  clear hT hx hl hv hn hg
  generalize withO (newX b c).l vs = wo at *
  go_enter Tryd.func8, Tryd.ntmps8
  go_wp2_with fail
  refine (alive_calls w HT.out.1).mono ?_
  rintro e w1 ⟨rfl, hb1⟩
  have H1 := Lib.hid hb1
  clear hb1
  go_wp2_with fail
  refine (HG.out w1 H1.out).mono ?_
  rintro e w2 ⟨rfl, rfl⟩
  go_wp2_with fail
  refine (copy_calls w1 A1 c1 vs (HT.out.2.1.below H1.out).1 (HT.out.2.1.below H1.out).2 (by omega)).mono ?_
  rintro e w2 ⟨v, rfl, hown, hb⟩
  obtain ⟨A3, c3, rfl, hi⟩ := hown.shape
  have H2 := Lib.hid (And.intro (below_then H1.out hb) hi)
  clear hown hb H1 hi
  go_wp2_with fail
  refine (HW.out w2 (HT.out.1.below H2.out.1) A3 c3 H2.out.2).mono ?_
  cases wo with
  | none =>
    rintro e w3 ⟨rfl, hb⟩
    have H3 := Lib.hid (below_then H2.out.1 hb)
    clear hb H2
    go_wp2_with fail
    refine (HRW.out w3 A1 c1 (HT.out.2.1.below H3.out).1).mono ?_
    rintro e w4 ⟨rfl, hb⟩
    have H4 := Lib.hid (below_then H3.out hb)
    clear hb H3
    go_wp2_with fail
    refine (HN.out w4 (HT.out.1.below H4.out)).mono ?_
    rintro e w5 ⟨p, F, rfl, hS, _, hb⟩
    have H5 := Lib.hid (And.intro hS (below_then H4.out hb))
    clear hb H4 hS
    go_wp2_with fail
    refine (HR.out w5).mono ?_
    rintro e w6 ⟨q, g, cp, rfl, hP, _, _, hb⟩
    have H6 := Lib.hid (And.intro (H5.out.1.below hb) (And.intro (rf_of hP HOK.out) (below_then H5.out.2 hb)))
    clear hb H5 hP
    go_wp2_with fail
    refine (agree_calls w6 p F q [q, g] (newX b c) H6.out.1 (HT.out.1.below H6.out.2.2) H6.out.2.1).mono ?_
    rintro e w7 ⟨rfl, hb⟩
    have H7 := Lib.hid (below_then H6.out.2.2 hb)
    clear hb H6
    go_wp2_with fail
    go_ret
    exact ⟨rfl, H7.out⟩
  | some l =>
    have hl2 := HWL.out l rfl
    rintro e w3 ⟨p, F, rfl, hS, hF, hb⟩
    have H3 := Lib.hid (show Hd w w3 p F { newX b c with l := l } from ⟨hS, fun y hy => Nat.le_trans H2.out.1.size (hF y hy), below_then H2.out.1 hb, HT.out.1.1, (HT.out.1.below H2.out.1).below hb⟩)
    clear hS hF hb H2
    go_wp2_with fail
    refine (HRW.out w3 A1 c1 (HT.out.2.1.below H3.out.below).1).mono ?_
    rintro e w4 ⟨q, g, cp, rfl, hP, hq, hgg, hb⟩
    have H4 := Lib.hid (show Tw w w4 p F q [q, g] { newX b c with l := l } from ⟨H3.out.on hb, rf_of hP (HOK.out.with hl2), fun y hy hy2 => by
      have h1 := H3.out.sl.flt y hy
      simp at hy2
      omega, fun y hy => by
      have h1 := H3.out.below.size
      simp at hy
      omega⟩)
    clear hP hq hgg hb H3
    go_wp2_with fail
    refine (HN.out w4 H4.out.hd.tab).mono ?_
    rintro e w5 ⟨pn, Fn, rfl, hS, _, hb⟩
    have H5 := Lib.hid (And.intro (H4.out.on hb) hS)
    clear hb H4 hS
    go_wp2_with fail
    refine (HR.out w5).mono ?_
    rintro e w6 ⟨qn, gn, cn, rfl, hP, _, _, hb⟩
    have H6 := Lib.hid (And.intro (H5.out.1.on hb) (And.intro (H5.out.2.below hb) (rf_of hP HOK.out)))
    clear hb H5 hP
    go_wp2_with fail
    refine (agree_calls w6 pn Fn qn [qn, gn] (newX b c) H6.out.2.1 H6.out.1.hd.tab H6.out.2.2).mono ?_
    rintro e w7 ⟨rfl, hb⟩
    have H7 := Lib.hid (H6.out.1.on hb)
    clear hb H6
    go_wp2_with fail
    refine (agree_calls w7 p F q [q, g] _ H7.out.hd.sl H7.out.hd.tab H7.out.rf).mono ?_
    rintro e w8 ⟨rfl, hb⟩
    have H8 := Lib.hid (H7.out.on hb)
    clear hb H7 HN HR HW HRW HWL
    go_wp2_with fail
    go_loopw [17] (fun i wr => ∃ (k : Nat) (y : Sb) (F G : List Nat), i = .int .i64 k ∧ k ≤ xs.length ∧ Tw w wr p F q G y) (fun i _ => xs.length - (intOf i).toNat)
    case atStart => exact ⟨0, _, F, [q, g], rfl, by omega, H8.out⟩
    case round =>
      obtain ⟨k, y, F, G, rfl, hk, hTw⟩ := hrel
      have HH := Lib.hid hTw
      clear hTw H8
      by_cases hlt : k < xs.length
      · have hk0 : (0 : Int) ≤ (k : Int) := by omega
        have hk1 : (k : Int) < (xs.length : Int) := by omega
        have HXk := Lib.hid (fun W (hb : Below w.heap.size w W) => (HT.out.2.2.below hb) k hlt)
        have HLk := Lib.hid (HGN.out.2 k hlt)
        obtain ⟨bb, oo, rfl, hC⟩ := HXk.out wr HH.out.hd.below
        generalize xs.getD k cl0 = cl at *
        obtain ⟨A5, c5, d2, hN5, _⟩ := hC.c2
        have d0 := hC.c0
        have d1 := hC.c1
        have HRO := Lib.hid HH.out.rf.ok
        have HD := Lib.hid (done_calls w wr p F y HH.out.hd cl A5 c5 hN5 HLk.out)
        clear hC hN5
        go_wp2_with fail
        refine HD.out.mono ?_
        rintro e w9 ⟨x9, out, er, A9, c9, rfl, hdid, hin, hfr, hslw⟩
        obtain ⟨F9, hH9, hR9, hD9⟩ := HH.out.ours hslw
        have H9 := Lib.hid (And.intro hdid (And.intro hin (And.intro hH9 (And.intro hD9 HH.out.base))))
        have HFR := Lib.hid (show ∀ b o, A9 = some ⟨b, o, none⟩ → 0 < out.length → b ∉ G from fun b o e h hg => by
          have h1 := hfr b o e h
          have h2 := HH.out.rf.flt b hg
          omega)
        obtain ⟨bb2, oo2, e2, hC⟩ := HXk.out w9 hH9.below
        injection e2 with e2
        injection e2 with e3 e4 _
        subst e3 e4
        obtain ⟨A6, c6, d2, hN6, _⟩ := hC.c2
        have d0 := hC.c0
        have d1 := hC.c1
        have HM := Lib.hid (many_calls w9 q G y hR9 cl A6 c6 hN6 HLk.out)
        clear hdid hin hfr hslw hH9 hR9 hD9 hC hN6 HD HH
        go_wp2_with fail
        refine HM.out.mono ?_
        rintro e w10 ⟨x10, out2, er2, A10, c10, rfl, hdid2, hin2, hrlw⟩
        obtain ⟨rfl, rfl, rfl⟩ := H9.out.1.one hdid2
        obtain ⟨G10, hTw, hK10⟩ := tw_refs H9.out.2.2.1 H9.out.2.2.2.1 H9.out.2.2.2.2 hrlw
        have HI := Lib.hid (And.intro (ints_kept H9.out.2.1 hK10 HFR.out) hin2)
        have H10 := Lib.hid hTw
        have HOL := Lib.hid (show out.length ≤ maxLen from by
          have h1 := H9.out.1.len HRO.out
          unfold maxLen
          omega)
        clear hdid2 hin2 hrlw hTw hK10 H9 HM HFR d0 d1 d2
        go_wp2_with fail
        refine (same_ints out out A9 A10 c9 c10 w10 HI.out.1 HI.out.2 HOL.out).mono ?_
        rintro e w11 ⟨rfl, nq, rfl⟩
        rw [show (out == out) = true by simp]
        have H11 := Lib.hid (H10.out.on (below_drewN (Below.refl _ _) nq))
        generalize w10.drewN nq = w11 at H11 ⊢
        clear H10 HI HOL
        go_wp2_with fail
        refine (agree_calls w11 p F9 q G10 _ H11.out.hd.sl H11.out.hd.tab H11.out.rf).mono ?_
        rintro e w12 ⟨rfl, hb⟩
        have H12 := Lib.hid (H11.out.on hb)
        clear hb H11
        go_wp2_with fail
        go_roundw
        case rel => exact ⟨k + 1, _, F9, G10, by go_num, by omega, H12.out⟩
        case measure => simp [intOf]; omega
      · obtain rfl : k = xs.length := by omega
        go_wp2_with fail
        go_ret
        exact ⟨rfl, HH.out.hd.below⟩
theorem nat_pair {b c : Int} (h : newOk b c) : ∃ b' c' : Nat, b = b' ∧ c = c' ∧ newOk (b' : Int) (c' : Int) := by
  obtain ⟨b', rfl⟩ := Int.eq_ofNat_of_zero_le h.1
  obtain ⟨c', rfl⟩ := Int.eq_ofNat_of_zero_le (newOk_c h).1
  exact ⟨b', c', rfl, rfl, h⟩
theorem calls_law (w : World) (b c : Int) (A1 : Option Addr) (c1 : Nat) (vs : List Int) (A2 : Option Addr) (c2 : Nat) (xs : List Cl) (hT : Tab w) (hv : Nums w A1 c1 vs) (_hvl : vs.length ≤ maxLen) (hx : Cls w A2 xs) (hl : xs.length ≤ maxLen) (hb : -9223372036854775808 ≤ b ∧ b ≤ 9223372036854775807) :
    Calls Tryd.prog 8 #[.int .i64 b, .int .i64 c, .slice A1 vs.length c1, .slice A2 xs.length c2] w fun e w' => e = .returned (.bool true) ∧ Below w.heap.size w w' := by
  by_cases hg : greatB xs = true ∨ 200 < vs.length
  · exact calls_great w b c A1 c1 vs A2 c2 xs hT hx hl hg
  · have h1 : greatB xs = false := by
      cases h : greatB xs
      · rfl
      · exact absurd (.inl h) hg
    have h2 : vs.length ≤ 200 := by
      rcases Nat.lt_or_ge 200 vs.length with h | h
      · exact absurd (.inr h) hg
      · exact h
    by_cases hn : newOk b c
    · obtain ⟨b', c', rfl, rfl, hn'⟩ := nat_pair hn
      exact calls_yes w b' c' A1 c1 vs A2 c2 xs hT hv hx hl h1 h2 hn'
    · exact calls_no w b c A1 c1 vs A2 c2 xs hT (by omega) hv hx hl h1 h2 hn
end Go.Proofs.YtknieebmcpgppaaDoor.Old
