/- The walk of EpochCalls: it returns true. -/
import Derived.Test.YtchnhmcedmicgaaEpoX
import Derived.Test.YtchnhmcedmicgaaSame
import Derived.Test.YtchnhmcedmicgaaEpoG
namespace Go.Proofs.Ytchnhmcedmicgaa.Epo
open Go.RowKit Go.Proofs.Ytchnhmcedmicgaa.Aid
/-- How often a row was met among the first states. -/
def cntTo (hist : List (List Int)) (X : List Int) (i : Nat) : Nat := ((hist.take i).map pad).count X
theorem cntTo_zero (hist : List (List Int)) (X : List Int) : cntTo hist X 0 = 0 := rfl
theorem cntTo_le (hist : List (List Int)) (X : List Int) (i : Nat) : cntTo hist X i ≤ i := by
  unfold cntTo
  have h := List.count_le_length (l := (hist.take i).map pad) (a := X)
  rw [List.length_map, List.length_take] at h
  omega
theorem cntTo_step (hist : List (List Int)) (X : List Int) (i : Nat) (h : i < hist.length) : cntTo hist X (i + 1) = cntTo hist X i + (if (pad (hist.getD i []) == X) = true then 1 else 0) := by
  unfold cntTo
  rw [List.take_succ_eq_append_getElem h, List.map_append, List.count_append, List.map_singleton, List.count_singleton]
  simp [List.getD_eq_getElem?_getD, h]
theorem cntTo_all (hist : List (List Int)) (X : List Int) : cntTo hist X hist.length = (hist.map pad).count X := by
  unfold cntTo
  rw [List.take_of_length_le (Nat.le_refl _)]
theorem cut_short (r : List Int) (h : r.length ≤ 64) : cut r = r := List.take_of_length_le h
theorem lvec_len (w : World) (A : Option Addr) (ca n : Nat) (xs : List Int) (hn : xs.length = n) (h : Ints w .u64 A xs) (hlen : n ≤ 64) :
    Calls Try.prog 33 #[.slice A n ca] w fun e w' => e = .returned (vv xs) ∧ Below w.heap.size w w' := by
  subst hn
  have := lvector_calls w A ca xs h (by unfold maxLen; omega)
  rw [cut_short xs hlen] at this
  exact this
theorem eq_vv (a b : List Int) (ha : a.length ≤ 64) (hb : b.length ≤ 64) (w : World) : (Op.equalIn 10000 VT (vv a) (vv b)).run Try.prog w = .ok (pad a == pad b) w :=
  eq_nums (P := Try.prog) (T := VT) (q := .u64) (n := 64) huV huU hcU hpU (pad a) (pad b) (pad_len _ ha) (pad_len _ hb) w
theorem cut_wf (ys : List Int) (h : ∀ y ∈ ys, (Lit.int .u64 y).wf = true) : okL .u64 64 (pad (cut ys)) := by
  refine ⟨pad_len _ (cut_len ys), fun x hx => ?_⟩
  rcases mem_pad hx with hx | rfl
  · exact h x (List.mem_of_mem_take hx)
  · decide
/-- What the last row's place gives. -/
structure Lst (w : World) (rp sb c n : Nat) (s : ERun) (b c' : Nat) : Prop where
  at_ : LastAt w rp sb c n s.hist.length b c'
  row : Ints w .u64 (some ⟨b, 0, none⟩) s.row
  one : 1 ≤ s.hist.length
theorem lst_of {w : World} {p mb rp sb c n : Nat} {s : ERun} (h : Both w p mb rp sb c n s) : ∃ b c', Lst w rp sb c n s b c' ∧ b < w.heap.size := by
  obtain ⟨b, c', h1, h2, h3, _⟩ := RefAt.last h.r h.e.ok
  exact ⟨b, c', ⟨h1, h2, by obtain ⟨hs, e⟩ := h.e.ok.last; rw [e]; simp⟩, h3⟩
theorem Lst.below {w w' : World} {rp sb c n : Nat} {s : ERun} {b c' : Nat} (h : Lst w rp sb c n s b c') (hr : rp < w.heap.size ∧ sb < w.heap.size) (k : Below w.heap.size w w') : Lst w' rp sb c n s b c' := ⟨h.at_.below hr k, h.row.below k, h.one⟩
set_option maxHeartbeats 8000000 in
set_option maxRecDepth 8000 in
theorem calls_yes (w : World) (n : Nat) (A : Option Addr) (ca : Nat) (xs : List Int) (ask : Int) (B : Option Addr) (cb : Nat) (ys : List Int) (hx : Ints w .i64 A xs) (hy : Ints w .u64 B ys) (hwf : ∀ y ∈ ys, (Lit.int .u64 y).wf = true) (hyl : ys.length ≤ maxLen) (h1 : 1 ≤ n) (h2 : n ≤ 64) (hl : ¬ 200 < (xs.length : Int)) :
    Calls Try.prog 5 #[.int .i64 n, .slice A xs.length ca, .int .i64 ask, .slice B ys.length cb] w fun e w' => e = .returned (.bool true) ∧ Below w.heap.size w w' := by
  have HX := Lib.hid hx
  have HY := Lib.hid hy
  have HYL := Lib.hid hyl
  have HWF := Lib.hid (cut_wf ys hwf)
  have HN := Lib.hid (And.intro h1 h2)
  clear hx hy hyl hwf
  go_enter Try.func5, Try.ntmps5
  go_wp2_with fail
  refine (alive_calls w).mono ?_
  rintro e w1 ⟨rfl, hb1⟩
  go_wp2_with fail
  refine (new_yes w1 n h1 h2).mono ?_
  rintro e w2 ⟨p, mb, rfl, hE, hp, hm2, hb2⟩
  go_wp2_with fail
  refine (rnew_yes w2 n [p, mb] h1 h2 (by have := hE.lt; simp; omega)).mono ?_
  rintro e w3 ⟨rp, sb, rfl, hR, hrp, hsb, hb3⟩
  have H0 := Lib.hid (begun_run hb1 hE hp hm2 hb2 hR hrp hsb hb3)
  clear hb1 hE hp hm2 hb2 hR hrp hsb hb3
  go_wp2_with fail
  go_loopw [13] (fun i wr => ∃ (j : Nat) (s : ERun) (sb c : Nat), j ≤ xs.length ∧ i = .int .i64 j ∧ Run1 w wr p mb rp sb c n s ∧ s.hist.length ≤ j + 1) (fun i _ => xs.length - (intOf i).toNat)
  case atStart => exact ⟨0, run0 n, sb, 1, by omega, rfl, H0.out, by simp [run0]⟩
  case round =>
    obtain ⟨j, s, sb, c, hj, rfl, hr, hs⟩ := hrel
    have HR := Lib.hid hr
    have Hs := Lib.hid hs
    clear hr hs H0
    by_cases hlt : j < xs.length
    · obtain ⟨b, o, rfl, hlb, ck⟩ := HX.out.below HR.out.below j hlt
      have hj0 : (0 : Int) ≤ (j : Int) := by omega
      have hj1 : (j : Int) < (xs.length : Int) := by omega
      generalize xs.getD j 0 = x at ck
      have HD := Lib.hid (fun (W : World) (hb : Below wr.heap.size wr W) => do_calls W p mb rp sb c n s x (HR.out.both.below hb) (by have := Hs.out; omega))
      have HL := Lib.hid (stepE_len n s x)
      generalize stepE n s x = s' at HD HL
      have hnn : (s'.now != s'.now) = false := by simp
      have HBw := Lib.hid ((Below.refl wr.heap.size wr).drew)
      have CN := Lib.hid (fun (W : World) (sb' c' : Nat) (h : Both W p mb rp sb' c' n s') => now_calls W p mb n s' h.e)
      have CV := Lib.hid (fun (W : World) (sb' c' : Nat) (h : Both W p mb rp sb' c' n s') => vector_calls W p mb n s' h.e)
      have CLa := Lib.hid (fun (W : World) (sb' c' b c'' : Nat) (h : Lst W rp sb' c' n s' b c'') (hh : s'.hist.length ≤ 1000000) => last_calls W rp sb' c' n s'.hist.length b c'' h.at_ h.one hh)
      have CLv := Lib.hid (fun (W : World) (b c'' : Nat) (hn : s'.row.length = n) (h : Ints W .u64 (some ⟨b, 0, none⟩) s'.row) => lvec_len W (some ⟨b, 0, none⟩) c'' n s'.row hn h h2)
      have heq : ∀ (_ : s'.row.length ≤ 64) w, (Op.equalIn 10000 VT (vv s'.row) (vv s'.row)).run Try.prog w = .ok true w := fun h w => by
        have := eq_vv s'.row s'.row h h w
        rw [show (pad s'.row == pad s'.row) = true from by simp] at this
        exact this
      have HEq := Lib.hid heq
      clear heq
      unfold vv keL at CV CLv HEq
      generalize (pad s'.row).map (Value.int .u64) = cs at CV CLv HEq
      generalize hnw : s'.now = nw at hnn CN
      have HNW := Lib.hid hnw
      clear hnw
      go_wp2_with fail
      go_region_with (first
        | (go_at_call 30; (with_reducible refine (Calls.mono (HD.out _ HBw.out) ?_)); rintro e w4 ⟨rfl, hd⟩; obtain ⟨sb', c', hB4, hk4, hl4⟩ := hd; have heq := HEq.out (by rw [hB4.e.ok.len]; exact h2); have c0 := hB4.r.head.cell (o := 0) rfl; rw [HNW.out] at c0; obtain ⟨lb, lc, hL4, hlb4⟩ := lst_of hB4; have HB4 := Lib.hid hB4; have HL4 := Lib.hid hL4; have HRn := Lib.hid (HR.out.next (w' := w4) ⟨sb', c', hB4, (undrewK hk4), hl4⟩); clear hB4 hk4 hl4 hL4 hlb4)
        | (go_at_call 31; (with_reducible refine (Calls.mono (CN.out _ _ _ HB4.out) ?_)); rintro e w5 ⟨rfl, rfl⟩)
        | (go_at_call 32; (with_reducible refine (Calls.mono (CV.out _ _ _ HB4.out) ?_)); rintro e w6 ⟨rfl, hb6⟩; have HL6 := Lib.hid (HL4.out.below HB4.out.r.lt hb6); have HB6 := Lib.hid hb6; clear hb6)
        | (go_at_call 34; (with_reducible refine (Calls.mono (CLa.out _ _ _ _ _ HL6.out (by have := Hs.out; have := HL.out; omega)) ?_)); rintro e w7 ⟨rfl, nq, rfl⟩; have HI7 := Lib.hid (HL6.out.row.below (below_drewN (Below.refl _ _) nq)); have HB7 := Lib.hid (below_drewN HB6.out nq))
        | (go_at_call 33; (with_reducible refine (Calls.mono (CLv.out _ _ _ HB4.out.e.ok.len HI7.out) ?_)); rintro e w8 ⟨rfl, hb8⟩; have HB8 := Lib.hid (below_then HB7.out hb8); clear hb8)
        | fail)
      all_goals
        go_wp2_with fail
        go_roundw
        case rel =>
          obtain ⟨sb2, c2, hr2⟩ := HRn.out
          exact ⟨j + 1, s', sb2, c2, by omega, by go_num, hr2.on HB8.out, by have := HL.out; have := Hs.out; omega⟩
        case measure => simp [intOf]; omega
    · obtain rfl : j = xs.length := by omega
      obtain ⟨lb, lc, hL, hlb⟩ := lst_of HR.out.both
      have HL := Lib.hid hL
      have HLB := Lib.hid hlb
      have HLC := Lib.hid (last_calls wr rp sb c n s.hist.length lb lc hL.at_ hL.one (by have := Hs.out; omega))
      clear hL hlb
      go_wp2_with fail
      refine HLC.out.mono ?_
      rintro e w4 ⟨rfl, nq, rfl⟩
      have HR4 := Lib.hid (HR.out.on (below_drewN (Below.refl _ _) nq))
      have HL4 := Lib.hid (HL.out.below HR.out.both.r.lt (below_drewN (Below.refl _ _) nq))
      have HLB4 := Lib.hid (show lb < (wr.drewN nq).heap.size from HLB.out)
      clear HL HR HLC HLB
      generalize wr.drewN nq = w5 at HR4 HL4 HLB4 ⊢
      have c0 := HR4.out.both.r.head.cell (o := 0) rfl
      have HRL := Lib.hid HR4.out.both.e.ok.len
      have HLe := Lib.hid (show ∀ k, leastTo s.now s.row (k + 1) = leastTo (g64 s.row 0) s.row (k + 1) from leastTo_same s.now s.row (HR4.out.both.e.ok.le (j := 0) (by omega)))
      go_wp2_with fail
      go_loop [15, 16] (fun m i => ∃ k : Nat, k ≤ n ∧ i = .int .i64 k ∧ m = .int .u64 (leastTo s.now s.row k)) (fun _ i => n - (intOf i).toNat)
      case atStart => exact ⟨0, by omega, rfl, rfl⟩
      case round =>
        obtain ⟨k, hk, rfl, rfl⟩ := hrel
        by_cases hlt : k < n
        · obtain ⟨b', o', e', hlb', ck⟩ := HL4.out.row k (by rw [HRL.out]; exact hlt)
          injection e' with e'
          injection e' with e1 e2
          subst e1 e2
          rw [Nat.zero_add, show s.row.getD k 0 = g64 s.row k from rfl] at ck
          have hk0 : (0 : Int) ≤ (k : Int) := by omega
          have hk1 : (k : Int) < (n : Int) := by omega
          have HS := Lib.hid (show leastTo s.now s.row (k + 1) = min (leastTo s.now s.row k) (g64 s.row k) from rfl)
          generalize leastTo s.now s.row k = m at HS ⊢
          generalize g64 s.row k = x at ck HS
          clear c0
          go_wp2_with fail
          go_round
          case rel => exact ⟨k + 1, by omega, by go_num, by rw [HS.out]; congr 1; split <;> omega⟩
          case measure => simp [intOf]; omega
        · obtain rfl : k = n := by omega
          clear c0
          have hle : leastTo s.now s.row k = leastV s := by
            unfold leastV
            rw [HRL.out]
            obtain ⟨m, rfl⟩ : ∃ m, k = m + 1 := ⟨k - 1, by omega⟩
            exact HLe.out m
          rw [hle]
          clear hle HLe
          obtain ⟨bb, hbb⟩ : ∃ bb, bb = decide (0 ≤ ask ∧ ask < (k : Int)) := ⟨_, rfl⟩
          have Hbb := Lib.hid hbb
          clear hbb
          go_upto_region 23 with fail
          go_cut [17, 107] (fun s17 s107 wc => s17 = .int .u64 0 ∧ s107 = .bool bb ∧ w5 = wc)
          case first =>
            by_cases k0 : 0 ≤ ask
            · by_cases k1 : ask < (k : Int)
              · go_wp2_with fail
                go_meet
                exact ⟨rfl, by rw [Hbb.out]; simp <;> omega, rfl⟩
              · go_wp2_with fail
                go_meet
                exact ⟨rfl, by rw [Hbb.out]; simp <;> omega, rfl⟩
            · go_wp2_with fail
              go_meet
              exact ⟨rfl, by rw [Hbb.out]; simp <;> omega, rfl⟩
          case rest =>
          obtain ⟨rfl, rfl, rfl⟩ := hcut
          rename_i hkk
          refine hkk _ _ ?_
          clear hkk
          go_cut [17] (fun s17 wc => s17 = .int .u64 (seenV k s.row ask) ∧ w5 = wc)
          case first =>
            by_cases hk : 0 ≤ ask ∧ ask < (k : Int)
            · obtain ⟨q, rfl⟩ := Int.eq_ofNat_of_zero_le hk.1
              obtain rfl : bb = true := by rw [Hbb.out, decide_eq_true hk]
              have hq0 : (0 : Int) ≤ (q : Int) := hk.1
              have hq1 : (q : Int) < (k : Int) := hk.2
              have hsv : seenV k s.row q = g64 s.row q := by unfold seenV; rw [if_pos hk, Int.toNat_natCast]
              obtain ⟨b', o', e', hlb', ck⟩ := HL4.out.row q (by rw [HRL.out]; omega)
              injection e' with e'
              injection e' with e1 e2
              subst e1 e2
              rw [Nat.zero_add, show s.row.getD q 0 = g64 s.row q from rfl] at ck
              have Hsv := Lib.hid hsv
              clear hk hsv
              generalize g64 s.row q = x at ck Hsv
              go_wp2_with fail
              go_meet
              exact ⟨by rw [Hsv.out], rfl⟩
            · obtain rfl : bb = false := by rw [Hbb.out, decide_eq_false hk]
              have hsv : seenV k s.row ask = 0 := by unfold seenV; rw [if_neg hk]
              have Hsv := Lib.hid hsv
              clear hk hsv
              go_wp2_with fail
              go_meet
              exact ⟨by rw [Hsv.out], rfl⟩
          case rest =>
          obtain ⟨rfl, rfl⟩ := hcut
          obtain ⟨wt, hwt⟩ : ∃ wt, wt = seenV k s.row ask := ⟨_, rfl⟩
          have HWt := Lib.hid hwt.symm
          rw [← hwt]
          clear hwt Hbb
          go_wp2_with fail
          go_loopw [18, 19, 20] (fun a b i wr => ∃ m : Nat, m ≤ s.hist.length ∧ i = .int .i64 m ∧ a = .int .i64 (cntTo s.hist (pad (cut ys)) m : Nat) ∧ b = .int .i64 (cntTo s.hist (pad s.row) m : Nat) ∧ Below w5.heap.size w5 wr) (fun _ _ i _ => s.hist.length - (intOf i).toNat)
          case atStart => exact ⟨0, by omega, rfl, rfl, rfl, Below.refl _ _⟩
          case round =>
            obtain ⟨m, hm, rfl, rfl, rfl, hb⟩ := hrel
            have HB := Lib.hid hb
            clear hb
            have HRm := Lib.hid (HR4.out.on HB.out)
            have c1 := HRm.out.both.r.head.cell (o := 1) rfl
            have hm0 : (0 : Int) ≤ (m : Int) := by omega
            have hs64 : (s.hist.length : Int) ≤ 201 := by have := Hs.out; omega
            by_cases hlt : m < s.hist.length
            · obtain ⟨bi, ci, hci, hli, hIi⟩ := HRm.out.both.r.lists.at hlt
              have hm1 : (m : Int) < (s.hist.length : Int) := by omega
              have z1 := cntTo_le s.hist (pad (cut ys)) m
              have z2 := cntTo_le s.hist (pad s.row) m
              have y1 := cntTo_step s.hist (pad (cut ys)) m hlt
              have y2 := cntTo_step s.hist (pad s.row) m hlt
              have HY1 := Lib.hid y1
              have HY2 := Lib.hid y2
              have HIi := Lib.hid hIi
              have hcutl := cut_len ys
              have HE1 := Lib.hid (fun w => eq_vv (s.hist.getD m []) (cut ys) (by omega) hcutl w)
              have HE2 := Lib.hid (fun w => eq_vv (s.hist.getD m []) s.row (by omega) (by rw [HRL.out]; omega) w)
              have CI := Lib.hid (fun (W : World) (hb : Below wr.heap.size wr W) => lvec_len W (some ⟨bi, 0, none⟩) ci k (s.hist.getD m []) hli (HIi.out.below hb) h2)
              have CY := Lib.hid (fun (W : World) (hb : Below wr.heap.size wr W) => lvector_calls W B cb ys ((HY.out.below (HRm.out.below)).below hb) HYL.out)
              have CL := Lib.hid (fun (W : World) (hb : Below wr.heap.size wr W) => lvec_len W (some ⟨lb, 0, none⟩) lc k s.row HRL.out ((HL4.out.row.below HB.out).below hb) h2)
              clear y1 y2 hIi hli hcutl
              generalize (pad (s.hist.getD m []) == pad (cut ys)) = b1 at HE1 HY1
              generalize (pad (s.hist.getD m []) == pad s.row) = b2 at HE2 HY2
              unfold vv keL at HE1 HE2 CI CY CL
              generalize (pad (s.hist.getD m [])).map (Value.int .u64) = v1 at HE1 HE2 CI
              generalize (pad (cut ys)).map (Value.int .u64) = v2 at HE1 CY
              generalize (pad s.row).map (Value.int .u64) = v3 at HE2 CL
              generalize cntTo s.hist (pad (cut ys)) m = n3 at HY1 z1 ⊢
              generalize cntTo s.hist (pad s.row) m = n4 at HY2 z2 ⊢
              have heq1 := HE1.out
              have heq2 := HE2.out
              have z1' : (n3 : Int) ≤ (m : Int) := by omega
              have z2' : (n4 : Int) ≤ (m : Int) := by omega
              have HC := Lib.hid (fun (W : World) (hb : Below wr.heap.size wr W) => (show W.cell? ⟨rp, 1, none⟩ = some (.slice (some ⟨sb, 0, none⟩) s.hist.length c) ∧ W.cell? ⟨sb, m, none⟩ = some (.slice (some ⟨bi, 0, none⟩) k ci) from ⟨(hb.cell (p := ⟨rp, 1, none⟩) HRm.out.both.r.lt.1).trans c1, (hb.cell (p := ⟨sb, m, none⟩) HRm.out.both.r.lt.2).trans hci⟩))
              cases b1 <;> cases b2
              all_goals
                go_wp2_with (first
                  | (go_at_call 33; (with_reducible refine (Calls.mono (CI.out _ (Below.refl _ _)) ?_)); rintro e w11 ⟨rfl, hb11⟩)
                  | (go_at_call 33; (with_reducible refine (Calls.mono (CY.out _ hb11) ?_)); rintro e w12 ⟨rfl, hb12⟩; have hb12' := below_then hb11 hb12; obtain ⟨c12, d12⟩ := HC.out _ hb12')
                  | (go_at_call 33; (with_reducible refine (Calls.mono (CI.out _ hb12') ?_)); rintro e w13 ⟨rfl, hb13⟩; have hb13' := below_then hb12' hb13)
                  | (go_at_call 33; (with_reducible refine (Calls.mono (CL.out _ hb13') ?_)); rintro e w14 ⟨rfl, hb14⟩; have hb14' := below_then hb13' hb14)
                  | fail)
                go_roundw
                case rel => exact ⟨m + 1, by omega, by go_num, by rw [HY1.out]; go_num, by rw [HY2.out]; go_num, below_then HB.out hb14'⟩
                case measure => simp [intOf]; omega
            · obtain rfl : m = s.hist.length := by omega
              rw [cntTo_all, cntTo_all]
              have HE := Lib.hid HRm.out.both.e
              have hz : (((behV s).length : Int) == 0) = setV s := by unfold setV; rw [Bool.eq_iff_iff]; simp
              have hz2 : (setV s == setV s) = true := by simp
              have hbl := beh_len HE.out.ok
              have CSe := Lib.hid ((seen_calls wr p mb k s ask HE.out).mono (R' := fun e w'' => e = .returned (.int .u64 wt) ∧ wr = w'') (fun e w'' h => by rw [HWt.out] at h; exact h))
              have CLe := Lib.hid (least_calls wr p mb k s HE.out)
              have CBe := Lib.hid (fun (W : World) (hb : Below wr.heap.size wr W) => (behind_calls W p mb k s (HE.out.below hb)).mono (R' := fun e w'' => ∃ A c, e = .returned (.slice A (behV s).length c) ∧ Ints w'' .i64 A (behV s) ∧ Below wr.heap.size wr w'' ∧ Below W.heap.size W w'') (fun e w'' h => by
                obtain ⟨v, e1, hO, hb2⟩ := h
                obtain ⟨A, c, rfl, hi⟩ := hO.shape
                exact ⟨A, c, e1, hi, below_then hb hb2, hb2⟩))
              have CRb := Lib.hid (fun (W : World) (hb : Below wr.heap.size wr W) => (rbehind_calls W rp sb c k [p, mb] s (HRm.out.both.r.below hb) HE.out.ok (by have := Hs.out; omega)).mono (R' := fun e w'' => ∃ A c, e = .returned (.slice A (behV s).length c) ∧ Ints w'' .i64 A (behV s) ∧ Below wr.heap.size wr w'' ∧ Below W.heap.size W w'') (fun e w'' h => by
                obtain ⟨v, e1, hO, hb2⟩ := h
                obtain ⟨A, c, rfl, hi⟩ := hO.shape
                exact ⟨A, c, e1, hi, below_then hb hb2, hb2⟩))
              have CSI := Lib.hid (fun (W : World) (A A' : Option Addr) (c c' : Nat) (hx : Ints W .i64 A (behV s)) (hy : Ints W .i64 A' (behV s)) => (same_ints (behV s) (behV s) A A' c c' W hx hy (by unfold maxLen; omega)).mono (R' := fun e w'' => e = .returned (.bool true) ∧ ∃ nq, w'' = W.drewN nq) (fun e w'' h => ⟨by rw [h.1]; simp, h.2⟩))
              have CSt := Lib.hid (fun (W : World) (hb : Below wr.heap.size wr W) => (settled_calls W p mb k s (HE.out.below hb)).mono (R' := fun e w'' => e = .returned (.bool (setV s)) ∧ Below wr.heap.size wr w'') (fun e w'' h => ⟨h.1, below_then hb h.2⟩))
              have CW := Lib.hid (fun (W : World) (hb : Below wr.heap.size wr W) => workers_calls W p mb k s (HE.out.below hb))
              have CVs := Lib.hid (fun (W : World) (hb : Below wr.heap.size wr W) => (lvector_calls W B cb ys ((HY.out.below (HRm.out.below)).below hb) HYL.out).mono (R' := fun e w'' => e = .returned (vv (cut ys)) ∧ Below wr.heap.size wr w'') (fun e w'' h => ⟨h.1, below_then hb h.2⟩))
              have CT := Lib.hid (fun (W : World) (hb : Below wr.heap.size wr W) => (times_calls W p mb k s (pad (cut ys)) (HE.out.below hb) HWF.out).mono (R' := fun e w'' => e = .returned (.int .i64 ((s.hist.map pad).count (pad (cut ys)) : Nat)) ∧ Below wr.heap.size wr w'') (fun e w'' h => ⟨h.1, below_then hb h.2⟩))
              have CV := Lib.hid (fun (W : World) (hb : Below wr.heap.size wr W) => (vector_calls W p mb k s (HE.out.below hb)).mono (R' := fun e w'' => e = .returned (vv s.row) ∧ Below wr.heap.size wr w'') (fun e w'' h => ⟨h.1, below_then hb h.2⟩))
              have CT2 := Lib.hid (fun (W : World) (hb : Below wr.heap.size wr W) => (times_calls W p mb k s (pad s.row) (HE.out.below hb) (HE.out.ok.wf (by have := Hs.out; omega))).mono (R' := fun e w'' => e = .returned (.int .i64 ((s.hist.map pad).count (pad s.row) : Nat)) ∧ Below wr.heap.size wr w'') (fun e w'' h => ⟨h.1, below_then hb h.2⟩))
              unfold vv keL at CVs CV
              unfold keL at CT CT2
              generalize setV s = sv at hz hz2 CSt
              generalize behV s = bl at hz hbl CBe CRb CSI
              generalize leastV s = lv at CLe ⊢
              generalize (s.hist.map pad).count (pad (cut ys)) = t1 at CT ⊢
              generalize (s.hist.map pad).count (pad s.row) = t2 at CT2 ⊢
              generalize (pad (cut ys)).map (Value.int .u64) = v1 at CVs CT
              generalize (pad s.row).map (Value.int .u64) = v2 at CV CT2
              go_wp2_with (first
                | (go_at_call 35; (with_reducible refine (Calls.mono CSe.out ?_)); rintro e w11 ⟨rfl, rfl⟩)
                | (go_at_call 36; (with_reducible refine (Calls.mono CLe.out ?_)); rintro e w11 ⟨rfl, hb11⟩)
                | (go_at_call 38; (with_reducible refine (Calls.mono (CBe.out _ hb11) ?_)); rintro e w12 ⟨A12, c12, rfl, hi12, hb12, _⟩)
                | (go_at_call 39; (with_reducible refine (Calls.mono (CRb.out _ hb12) ?_)); rintro e w13 ⟨A13, c13, rfl, hi13, hb13, hbb13⟩; have hi12' := hi12.below hbb13)
                | (go_at_call 37; (with_reducible refine (Calls.mono (CSI.out _ _ _ _ _ hi12' hi13) ?_)); rintro e w14 ⟨rfl, nq, rfl⟩; have hb14 := below_drewN hb13 nq)
                | (go_at_call 40; (with_reducible refine (Calls.mono (CSt.out _ hb14) ?_)); rintro e w15 ⟨rfl, hb15⟩)
                | (go_at_call 39; (with_reducible refine (Calls.mono (CRb.out _ hb15) ?_)); rintro e w16 ⟨A16, c16, rfl, _, hb16, _⟩)
                | (go_at_call 41; (with_reducible refine (Calls.mono (CW.out _ hb16) ?_)); rintro e w17 ⟨rfl, rfl⟩)
                | (go_at_call 33; (with_reducible refine (Calls.mono (CVs.out _ hb16) ?_)); rintro e w18 ⟨rfl, hb18⟩)
                | (go_at_call 42; (with_reducible refine (Calls.mono (CT.out _ hb18) ?_)); rintro e w19 ⟨rfl, hb19⟩)
                | (go_at_call 32; (with_reducible refine (Calls.mono (CV.out _ hb19) ?_)); rintro e w20 ⟨rfl, hb20⟩)
                | (go_at_call 42; (with_reducible refine (Calls.mono (CT2.out _ hb20) ?_)); rintro e w21 ⟨rfl, hb21⟩)
                | fail)
              go_ret
              exact ⟨by simp, below_then HRm.out.below hb21⟩
end Go.Proofs.Ytchnhmcedmicgaa.Epo
