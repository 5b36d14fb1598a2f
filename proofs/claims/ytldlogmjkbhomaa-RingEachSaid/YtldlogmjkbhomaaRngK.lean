/- The walk of RingOnce. -/
import Derived.Test.YtldlogmjkbhomaaRngJ
import Derived.Test.YtldlogmjkbhomaaRngV
set_option linter.unusedSimpArgs false
namespace Go.Proofs.Ytldlogmjkbhomaa.Rng
open Go.RowKit Go.Proofs.Ytldlogmjkbhomaa.Aid
def vals (xs : List Int) : List Value := xs.map (Value.int .i64)
/-- What holds while items are counted. -/
structure Cnt (w0 w : World) (p : Nat) (F : List Nat) (N L : Nat) (s : RgS) (g : Nat) (D : List Nat) : Prop where
  rng : RngAt w p F N L s
  row : Row w IT g N (vals (cntL N D))
  below : Below w0.heap.size w0 w
  gF : g ∉ F
  g0 : w0.heap.size ≤ g
section
variable {w0 w w' : World} {p N L : Nat} {F : List Nat} {s : RgS} {g : Nat} {D : List Nat}
theorem Cnt.on (h : Cnt w0 w p F N L s g D) (k : Below w.heap.size w w') : Cnt w0 w' p F N L s g D := ⟨h.rng.below k, h.row.below k, h.below.trans (k.mono h.below.size), h.gF, h.g0⟩
theorem Cnt.cell (h : Cnt w0 w p F N L s g D) {i : Nat} (hi : i < N) : w.cell? ⟨g, i, none⟩ = some (.int .i64 ((D.count i : Nat) : Int)) := by
  rw [h.row.cell (by unfold vals; rw [List.length_map, cntL_len]; exact hi)]
  unfold vals
  rw [List.getElem?_map, cntL_at D hi]
  rfl
theorem Cnt.put (h : Cnt w0 w p F N L s g D) {x : Nat} (hx : x ∉ D) : Cnt w0 (w.setCell ⟨g, x, none⟩ (.int .i64 1)) p F N L s g (D ++ [x]) ∧ Kept [g] w (w.setCell ⟨g, x, none⟩ (.int .i64 1)) := by
  have hK := (Kept.refl [g] w).setCell (p := ⟨g, x, none⟩) (.inl (by simp)) (.int .i64 1)
  refine ⟨⟨h.rng.kept hK fun y hy hy2 => ?_, ?_, below_kept h.below hK h.below.size fun y hy => ?_, h.gF, h.g0⟩, hK⟩
  · simp at hy2
    subst hy2
    exact h.gF hy
  · have h1 := h.row.store x (.int .i64 1)
    unfold vals at h1 ⊢
    rw [cntL_snoc N D x hx, List.map_set]
    exact h1
  · simp at hy
    subst hy
    exact h.g0
end
theorem headI_drop {ls : List Nat} {m y : Nat} (h : ls[m]? = some y) : headI (ls.drop m) = y := by
  obtain ⟨h1, h2⟩ := List.getElem?_eq_some_iff.1 h
  rw [List.drop_eq_getElem_cons h1, h2]
  rfl
theorem drop_at {ls : List Nat} {m y : Nat} (h : ls[m]? = some y) : ls = ls.take m ++ y :: ls.drop (m + 1) := by
  obtain ⟨h1, h2⟩ := List.getElem?_eq_some_iff.1 h
  rw [← h2, ← List.drop_eq_getElem_cons, List.take_append_drop]
theorem lsI_nat (s : RgS) {L j : Nat} (h : j < L) : lsI s L (j : Int) = s j := by
  unfold lsI
  rw [if_pos ⟨by omega, by omega⟩, Int.toNat_natCast]
theorem in_nat {N L : Nat} (s : RgS) {i : Nat} (h : i < N) : (lkI s N L (i : Int)) = lk s L i := by
  unfold lkI
  rw [if_pos ⟨by omega, by omega⟩, Int.toNat_natCast]
theorem ints_getD {ls : List Nat} {m y : Nat} (h : ls[m]? = some y) : (ints ls).getD m 0 = y := by
  unfold ints
  rw [List.getD_eq_getElem?_getD, List.getElem?_map, h]
  rfl
/-- Counted once, and in a list; or in none. -/
theorem once_or {N L : Nat} {s : RgS} (h : OkG N L s) {i : Nat} (hi : i < N) : ((doneL s L 0).count i = 1 ∧ ∃ l : Nat, (lkI s N L (i : Int)).a = l) ∨ ((doneL s L 0).count i = 0 ∧ (lkI s N L (i : Int)).a = -1) := by
  have h1 := count_in h (i := i)
  have h2 := count_le (doneL_nodup h L 0) i
  rw [in_nat s hi]
  rcases where_is s i with ⟨l, hl⟩ | hno
  · obtain ⟨A, B, e⟩ := List.append_of_mem hl
    rw [lk_at h e] at h1 ⊢
    simp only at h1 ⊢
    have : ¬ ((l : Nat) : Int) = -1 := by omega
    exact .inl ⟨h1.2 this, l, rfl⟩
  · rw [lk_none hno] at h1 ⊢
    simp only [not_true_eq_false, iff_false] at h1 ⊢
    exact .inr ⟨by omega, trivial⟩
set_option maxHeartbeats 8000000 in
set_option maxRecDepth 8000 in
theorem once_walk (w : World) (it li : Int) (xs : List R3) (A : Option Addr) (c : Nat) (hx : Cs w A xs) (_hl : xs.length ≤ maxLen) :
    Calls Try.prog 6 #[.int .i64 it, .int .i64 li, .slice A xs.length c] w fun e w' => e = .returned (.bool true) ∧ Below w.heap.size w w' := by
  have HA := Lib.hid (alive_calls w)
  have HX := Lib.hid hx
  clear hx
  cases hg : (decide (100 < it) || (decide (20 < li) || decide (200 < xs.length))) with
  | true =>
    have HG := Lib.hid (fun W : World => great_calls W it li A xs.length c)
    rw [hg] at HG
    clear _hl hg
    go_enter Try.func6, Try.ntmps6
    go_wp2_with fail
    refine HA.out.mono ?_
    rintro e w1 ⟨rfl, hb1⟩
    go_wp2_with fail
    refine (HG.out w1).mono ?_
    rintro e w2 ⟨rfl, rfl⟩
    go_wp2_with fail
    go_ret
    exact ⟨rfl, hb1⟩
  | false =>
  have HG := Lib.hid (fun W : World => great_calls W it li A xs.length c)
  rw [hg] at HG
  have hg2 : it ≤ 100 ∧ li ≤ 20 ∧ xs.length ≤ 200 := by
    simp only [Bool.or_eq_false_iff, decide_eq_false_iff_not] at hg
    omega
  obtain ⟨hit, hli, hxl⟩ := hg2
  clear hg
  by_cases hno : it < 0 ∨ 4096 < it ∨ li < 1 ∨ 256 < li
  · have HN := Lib.hid hno
    clear hno hit hli hxl _hl
    go_enter Try.func6, Try.ntmps6
    go_wp2_with fail
    refine HA.out.mono ?_
    rintro e w1 ⟨rfl, hb1⟩
    go_wp2_with fail
    refine (HG.out w1).mono ?_
    rintro e w2 ⟨rfl, rfl⟩
    go_wp2_with fail
    refine (new_no w1 it li HN.out).mono ?_
    rintro e w2 ⟨rfl, rfl⟩
    go_wp2_with fail
    refine (rnew_no w1 it li HN.out).mono ?_
    rintro e w2 ⟨rfl, rfl⟩
    go_wp2_with fail
    go_ret
    exact ⟨rfl, hb1⟩
  obtain ⟨N, rfl⟩ := Int.eq_ofNat_of_zero_le (show 0 ≤ it by omega)
  obtain ⟨L, rfl⟩ := Int.eq_ofNat_of_zero_le (show 0 ≤ li by omega)
  have hN : N ≤ 100 := by omega
  have hL1 : 1 ≤ L := by omega
  have hL2 : L ≤ 20 := by omega
  clear hno hit hli
  go_enter Try.func6, Try.ntmps6
  go_wp2_with fail
  refine HA.out.mono ?_
  rintro e w1 ⟨rfl, hb1⟩
  have HB1 := Lib.hid hb1
  clear hb1
  go_wp2_with fail
  refine (HG.out w1).mono ?_
  rintro e w2 ⟨rfl, rfl⟩
  go_wp2_with fail
  refine (new_yes w1 N L (by omega) hL1 (by omega)).mono ?_
  rintro e w2 ⟨p, F, rfl, hQ, hF, hb⟩
  have H2 := Lib.hid (And.intro hQ (And.intro hF hb))
  clear hQ hF hb HA HG
  go_wp2_with fail
  refine (rnew_yes w2 N L (by omega) hL1 (by omega)).mono ?_
  rintro e w3 ⟨q, G, rfl, hR, hG, hb⟩
  have H3 := Lib.hid (show Run w w3 p q F G N L (fun _ => []) from by
    obtain ⟨hQ, hF, hb2⟩ := H2.out
    have hfl := hQ.flt
    have z1 := HB1.out.size
    have z2 := hb2.size
    exact ⟨⟨hQ.below hb, hR, fun x hx hx2 => by have := hfl x hx; have := hG x hx2; omega⟩, fun x hx => Nat.le_trans z1 (hF x hx), fun x hx => Nat.le_trans (Nat.le_trans z1 z2) (hG x hx), (HB1.out.trans (hb2.mono z1)).trans (hb.mono (Nat.le_trans z1 z2))⟩)
  clear hR hG hb H2 HB1
  go_wp2_with fail
  go_loopw [11] (fun i wr => ∃ (k : Nat) (s : RgS) (G : List Nat), i = .int .i64 k ∧ k ≤ xs.length ∧ Run w wr p q F G N L s) (fun i _ => xs.length - (intOf i).toNat)
  case atStart => exact ⟨0, _, G, rfl, by omega, H3.out⟩
  case round =>
    obtain ⟨k, s, G, rfl, hk, hT⟩ := hrel
    have HT := Lib.hid hT
    clear hT H3
    by_cases hlt : k < xs.length
    · obtain ⟨b0, o0, rfl, hC⟩ := HX.out k hlt
      generalize xs.getD k z3 = c0 at hC
      have hC2 := hC.below HT.out.below
      have k0 := hC2.c0
      have k1 := hC2.c1
      have k2 := hC2.c2
      clear hC hC2
      have HTo := Lib.hid (told_calls wr p q F G N L s c0 HT.out.both)
      go_wp2_with fail
      refine HTo.out.mono ?_
      rintro e w4 ⟨rfl, hTo⟩
      obtain ⟨G', hR'⟩ := HT.out.told hTo
      have HR' := Lib.hid hR'
      clear hTo hR' HTo HT
      go_wp2_with fail
      go_roundw
      case rel => exact ⟨k + 1, _, G', by go_num, by omega, HR'.out⟩
      case measure => simp [intOf]; omega
    · obtain rfl : k = xs.length := by omega
      have hok := HT.out.both.rng.ok
      have HOk := Lib.hid hok
      have HLen := Lib.hid (fun l => hok.len l)
      clear hok hlt hk
      go_wp2_with (at_make; refine make_row _ rfl _ _ 68 rfl IT Try.underlying68 (.int .i64 0) 8 rfl info_int _ _ N rfl rfl (by omega) (by decide) ?_; intro w1 hr1 hlt1 hb1)
      have HC0 := Lib.hid (show Cnt w w1 p F N L s wr.heap.size (doneL s 0 0) from by
        refine ⟨HT.out.both.rng.below hb1, ?_, HT.out.below.trans (hb1.mono HT.out.below.size), fun hx => Nat.lt_irrefl _ (HT.out.both.rng.flt _ hx), HT.out.below.size⟩
        rw [show doneL s 0 0 = [] by simp [doneL], cntL_nil]
        unfold vals
        rw [List.map_replicate]
        exact hr1)
      clear hr1 hlt1 hb1 HT
      generalize wr.heap.size = g at HC0 ⊢
      go_loopw [13, 14] (fun t i wr => ∃ j : Nat, i = .int .i64 j ∧ j ≤ L ∧ t = .int .i64 ((doneL s j 0).length : Nat) ∧ Cnt w wr p F N L s g (doneL s j 0)) (fun _ i _ => L - (intOf i).toNat)
      case atStart => exact ⟨0, rfl, by omega, by simp [doneL], HC0.out⟩
      case round =>
        obtain ⟨j, rfl, hj, rfl, hC⟩ := hrel
        have HC := Lib.hid hC
        clear hC HC0
        by_cases hjl : j < L
        · have HAll := Lib.hid (all_calls wr p F N L s (j : Int) HC.out.rng)
          rw [lsI_nat s hjl] at HAll
          go_wp2_with fail
          refine HAll.out.mono ?_
          rintro e w2 ⟨⟨v, rfl, hO⟩, hb2⟩
          have HFi := Lib.hid (first_calls w2 p F N L s (j : Int) (HC.out.rng.below hb2))
          rw [lsI_nat s hjl] at HFi
          have HLn := Lib.hid (len_calls w2 p F N L s (j : Int) (HC.out.rng.below hb2))
          rw [lsI_nat s hjl] at HLn
          have HM := Lib.hid (show Cnt w w2 p F N L s g (doneL s j 0) ∧ Own w2 wr.heap.size IT .i64 v (ints (s j)) ∧ g < wr.heap.size from ⟨HC.out.on hb2, hO, HC.out.row.lt⟩)
          generalize wr.heap.size = base at HM
          obtain ⟨A1, c1, hv, _⟩ := hO.shape
          rw [ints_len] at hv
          subst hv
          have hdl := doneL_few HOk.out j 0
          have hdl2 := doneL_few HOk.out (j + 1) 0
          have hln := HLen.out j
          have HDl := Lib.hid (show (doneL s (j + 1) 0).length = (doneL s j 0).length + (s j).length by rw [← doneL_all]; unfold doneL; simp)
          clear hO hb2 HAll HC
          go_wp2_with fail
          refine HFi.out.mono ?_
          rintro e w3 ⟨rfl, rfl⟩
          go_wp2_with fail
          clear HFi HLn
          go_loopw [16, 17] (fun x k wr => ∃ m : Nat, k = .int .i64 m ∧ m ≤ (s j).length ∧ x = .int .i64 (headI ((s j).drop m)) ∧ Cnt w wr p F N L s g (doneL s j m) ∧ Own wr base IT .i64 (.slice A1 (s j).length c1) (ints (s j)) ∧ g < base) (fun _ k _ => (s j).length - (intOf k).toNat)
          case atStart => exact ⟨0, rfl, by omega, by rw [List.drop_zero], HM.out⟩
          case round =>
            obtain ⟨m, rfl, hm, rfl, hM⟩ := hrel
            clear HM
            have HM := Lib.hid hM
            clear hM
            by_cases hml : m < (s j).length
            · obtain ⟨y, hy⟩ : ∃ y, (s j)[m]? = some y := ⟨_, List.getElem?_eq_getElem hml⟩
              have hyN : y < N := HOk.out.lt j y (List.mem_of_getElem? hy)
              obtain ⟨_, _, hv, hI⟩ := HM.out.2.1.shape
              injection hv with hv1 hv2 hv3
              subst hv1
              obtain ⟨b, o, rfl, hbl, hc0⟩ := hI m (by rw [ints_len]; exact hml)
              rw [ints_getD hy] at hc0
              have hcy := HM.out.1.cell hyN
              rw [List.count_eq_zero.2 (doneL_new HOk.out hy)] at hcy
              have hfy := HM.out.1.row.free y
              have HIn := Lib.hid (in_calls wr p F N L s (y : Int) HM.out.1.rng)
              rw [(at_some HOk.out (drop_at hy)).1] at HIn
              have HPut := Lib.hid (HM.out.1.put (doneL_new HOk.out hy))
              have HNx := Lib.hid (next_calls _ p F N L s (y : Int) HPut.out.1.rng)
              rw [(at_some HOk.out (drop_at hy)).2] at HNx
              have hy0 : (0 : Int) ≤ (y : Int) := by omega
              have hy1 : (y : Int) < (N : Int) := by omega
              rw [headI_drop hy]
              have HY := Lib.hid hy
              have hb2 : b ≠ g := by
                intro e
                subst e
                have := HM.out.2.1.base_le b rfl
                have := HM.out.2.2
                omega
              have hz0 : ((0 : Nat) : Int) = 0 := rfl
              rw [hz0] at hcy
              clear hy hI hv2 hv3 hyN hbl hz0
              go_wp2_with fail
              refine HIn.out.mono ?_
              rintro e w4 ⟨rfl, rfl⟩
              go_wp2_with fail
              refine HNx.out.mono ?_
              rintro e w4 ⟨rfl, rfl⟩
              go_wp2_with fail
              go_roundw
              case rel => exact ⟨m + 1, by go_num, hml, rfl, by rw [doneL_succ HY.out]; exact HPut.out.1, own_kept HM.out.2.1 HPut.out.2 (fun x hx => by simp at hx; subst hx; exact HM.out.2.2), HM.out.2.2⟩
              case measure => simp [intOf]; omega
            · obtain rfl : m = (s j).length := by omega
              have HLn := Lib.hid (len_calls wr p F N L s (j : Int) HM.out.1.rng)
              rw [lsI_nat s hjl] at HLn
              rw [List.drop_length, show headI [] = -1 from rfl]
              go_wp2_with fail
              refine HLn.out.mono ?_
              rintro e w4 ⟨rfl, rfl⟩
              go_wp2_with fail
              go_roundw
              case rel => exact ⟨j + 1, by go_num, hjl, by rw [HDl.out]; go_num, by rw [← doneL_all]; exact HM.out.1⟩
              case measure => simp [intOf]; omega
        · obtain rfl : j = L := by omega
          have hdl := doneL_few HOk.out j 0
          go_wp2_with fail
          go_loopw [13, 18] (fun t i wr2 => ∃ m : Nat, i = .int .i64 m ∧ m ≤ N ∧ t = .int .i64 (((doneL s j 0).length - fewer (doneL s j 0) m : Nat) : Int) ∧ ∃ nq, wr2 = wr.drewN nq) (fun _ i _ => N - (intOf i).toNat)
          case atStart => exact ⟨0, rfl, by omega, by rw [fewer_zero]; rfl, 0, rfl⟩
          case round =>
            obtain ⟨m, rfl, hm, rfl, nq, rfl⟩ := hrel
            by_cases hml : m < N
            · have hC := HC.out.on (below_drewN (Below.refl wr.heap.size wr) nq)
              have hcm := hC.cell hml
              have hf1 := fewer_succ (doneL s j 0) m
              have hf2 := fewer_le (doneL s j 0) (m + 1)
              have HIn := Lib.hid (fun k => in_calls (wr.drewN k) p F N j s (m : Int) (HC.out.on (below_drewN (Below.refl wr.heap.size wr) k)).rng)
              have HCe := Lib.hid (fun k => (HC.out.on (below_drewN (Below.refl wr.heap.size wr) k)).cell hml)
              have hm0 : (0 : Int) ≤ (m : Int) := by omega
              have hm1 : (m : Int) < (N : Int) := by omega
              rcases once_or HOk.out hml with ⟨e1, l, e2⟩ | ⟨e1, e2⟩
              · rw [e1] at hcm hf1 HCe
                rw [e2] at HIn
                have hl0 : (0 : Int) ≤ (l : Int) := by omega
                have HF := Lib.hid (And.intro hf1 hf2)
                have hTl : (1 : Int) ≤ (((doneL s j 0).length - fewer (doneL s j 0) m : Nat) : Int) := by omega
                have hTh : (((doneL s j 0).length - fewer (doneL s j 0) m : Nat) : Int) ≤ 100 := by omega
                have hT2 : (((doneL s j 0).length - fewer (doneL s j 0) (m + 1) : Nat) : Int) = (((doneL s j 0).length - fewer (doneL s j 0) m : Nat) : Int) - 1 := by omega
                have HT2 := Lib.hid hT2
                generalize (((doneL s j 0).length - fewer (doneL s j 0) m : Nat) : Int) = T at hTl hTh HT2 ⊢
                have hcm' : (wr.drewN nq).cell? ⟨g, m, none⟩ = some (.int .i64 1) := hcm
                clear e1 e2 hf1 hf2 hT2 hC hcm
                go_wp2_with fail
                go_region_held3 (fun w' => w'.cell? ⟨g, m, none⟩ = some (.int .i64 1)) (first | exact hcm' | exact HCe.out _)
                  ((go_at_call 35; (refine (Calls.mono (HIn.out _) ?_)); rintro e w5 ⟨rfl, rfl⟩))
                go_wp2_with fail
                go_roundw
                case rel => exact ⟨m + 1, by go_num, hml, by rw [HT2.out], _, rfl⟩
                case measure => simp [intOf]; omega
              · rw [e1] at hcm hf1 HCe
                rw [e2] at HIn
                have hTl : (0 : Int) ≤ (((doneL s j 0).length - fewer (doneL s j 0) m : Nat) : Int) := by omega
                have hTh : (((doneL s j 0).length - fewer (doneL s j 0) m : Nat) : Int) ≤ 100 := by omega
                have hT2 : (((doneL s j 0).length - fewer (doneL s j 0) (m + 1) : Nat) : Int) = (((doneL s j 0).length - fewer (doneL s j 0) m : Nat) : Int) := by omega
                have HT2 := Lib.hid hT2
                generalize (((doneL s j 0).length - fewer (doneL s j 0) m : Nat) : Int) = T at hTl hTh HT2 ⊢
                have hcm' : (wr.drewN nq).cell? ⟨g, m, none⟩ = some (.int .i64 0) := hcm
                clear e1 e2 hf1 hf2 hT2 hC hcm
                go_wp2_with fail
                go_region_held3 (fun w' => w'.cell? ⟨g, m, none⟩ = some (.int .i64 0)) (first | exact hcm' | exact HCe.out _)
                  ((go_at_call 35; (refine (Calls.mono (HIn.out _) ?_)); rintro e w5 ⟨rfl, rfl⟩))
                go_wp2_with fail
                go_roundw
                case rel => exact ⟨m + 1, by go_num, hml, by rw [HT2.out], _, rfl⟩
                case measure => simp [intOf]; omega
            · obtain rfl : m = N := by omega
              rw [fewer_all fun i hi => doneL_lt HOk.out hi, Nat.sub_self]
              go_wp2_with fail
              go_ret
              exact ⟨rfl, below_drewN HC.out.below nq⟩
end Go.Proofs.Ytldlogmjkbhomaa.Rng
