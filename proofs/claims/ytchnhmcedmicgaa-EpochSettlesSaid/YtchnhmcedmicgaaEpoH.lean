/- The walk of EpochSettles: it returns true. -/
import Derived.Test.YtchnhmcedmicgaaEpoX
import Derived.Test.YtchnhmcedmicgaaEpoG
namespace Go.Proofs.Ytchnhmcedmicgaa.Epo
open Go.RowKit Go.Proofs.Ytchnhmcedmicgaa.Aid
/-- Either nil, or a row of the call's own. -/
def Shape (w : World) (base : Nat) (e : TypeId) (q : IntKind) (v : Value) (xs : List Int) : Prop := (v = .slice none 0 0 ∧ xs = []) ∨ ∃ g c, v = .slice (some ⟨g, 0, none⟩) xs.length c ∧ Row w e g c (xs.map (.int q)) ∧ base ≤ g
theorem Shape.below {w w' : World} {base : Nat} {e : TypeId} {q : IntKind} {v : Value} {xs : List Int} (h : Shape w base e q v xs) (k : Below w.heap.size w w') : Shape w' base e q v xs := by
  rcases h with h | ⟨g, c, h1, h2, h3⟩
  · exact .inl h
  · exact .inr ⟨g, c, h1, h2.below k, h3⟩
theorem own_cases {w : World} {base : Nat} {e : TypeId} {q : IntKind} {v : Value} {xs : List Int} (h : Own w base e q v xs) : Shape w base e q v xs := by
  by_cases hv : v = .slice none 0 0
  · refine .inl ⟨hv, ?_⟩
    obtain ⟨A, c, e, hi⟩ := h.shape
    rw [hv] at e
    injection e with e1 e2 e3
    exact List.eq_nil_of_length_eq_zero (by omega)
  · obtain ⟨g, c, e, hn, hr, hg⟩ := Row.of_own h hv
    exact .inr ⟨g, c, e, hr, hg⟩
/-- append of numbers to a slice of the call's own that is not nil, as a run. -/
theorem append_own_run {P : Program} {W : World} (t ty : TypeId) (base : Nat) (e : TypeId) (q : IntKind) (bytes : Nat) (ht : P.underlying t = some (.slice e))
    (hinfo : (P.info? e).map (fun i => (i.zero, i.size, i.bytes)) = some (some (.int q 0), 1, bytes)) (xs : List Int) (gz cz : Nat) (hown : Own W base e q (.slice (some ⟨gz, 0, none⟩) xs.length cz) xs) (ys : List Int) (ad : Addr) (c : Nat)
    (hsrc : Ints W q (some ad) ys) (h63 : xs.length + ys.length ≤ 140737488355328) (hl : (xs.length + ys.length) * bytes ≤ 140737488355328) (hbase : base ≤ W.heap.size) :
    ∃ g c' w', (Builtin.append_ #[t, t] ty #[.slice (some ⟨gz, 0, none⟩) xs.length cz, .slice (some ad) ys.length c]).run P W = .ok (.slice (some ⟨g, 0, none⟩) (xs.length + ys.length) c') w' ∧ Own w' base e q (.slice (some ⟨g, 0, none⟩) (xs.length + ys.length) c') (xs ++ ys) ∧ Row w' e g c' ((xs ++ ys).map (Value.int q)) ∧ base ≤ g ∧ Below base W w' := by
  obtain ⟨i0, hi, hz0, hz1, hz2⟩ := info_parts hinfo
  obtain ⟨v', w', hrun, h1, h2, h3⟩ := run_append_own (P := P) W base t ty e i0 (.int q 0) 1 bytes ht hi hz0 hz1 hz2 rfl (by decide) _ xs.length _ hown ad ys.length c (ys.map (Value.int q)) (by simp) (by
    intro j u hj
    have hj' : j < ys.length := by
      have := (List.getElem?_eq_some_iff.1 hj).1
      simpa using this
    obtain ⟨b, o', e', hlt, h1⟩ := hsrc j hj'
    cases e'
    rw [Go.WideShapes.add_plain, h1]
    simp [hj'] at hj
    simp [hj', ← hj]) (by
    intro u hu
    simp at hu
    obtain ⟨y, _, rfl⟩ := hu
    rfl) (by unfold maxLen; omega) hl hbase
  rw [← List.map_append] at h1
  have hne : v' ≠ .slice none 0 0 := fun e => by have := (h3.1 e).1; cases this
  obtain ⟨g, c2, rfl, hn, hr, hg⟩ := Row.of_own h1 hne
  refine ⟨g, c2, w', hrun, ?_, hr, hg, (Below.refl base W).grown h2 hbase (fun k hk => (hown.base_le k hk).1)⟩
  unfold Own
  rw [List.length_append]
  exact h1
/-- A list turned by k, built anew. -/
theorem turned_run (w : World) (l : List Int) (k : Nat) (hk : k ≤ l.length) (hl : l.length ≤ 64) (ad ad2 : Addr) (cx cy : Nat) (h1 : Ints w .i64 (some ad) (l.drop k)) (h2 : Ints w .i64 (some ad2) (l.take k)) :
    ∃ g1 c1 w1 g2 c2 w2, (Builtin.append_ #[40, 40] 40 #[.slice (some ⟨w.heap.size, 0, none⟩) 0 0, .slice (some ad) (l.length - k) cx]).run Try.prog (w.alloc (.cells #[] 3)).drew = .ok (.slice (some ⟨g1, 0, none⟩) (l.length - k) c1) w1 ∧
      (Builtin.append_ #[40, 40] 40 #[.slice (some ⟨g1, 0, none⟩) (l.length - k) c1, .slice (some ad2) k cy]).run Try.prog w1 = .ok (.slice (some ⟨g2, 0, none⟩) l.length c2) w2 ∧
      Row w2 3 g2 c2 ((l.drop k ++ l.take k).map (.int .i64)) ∧ w.heap.size ≤ g2 ∧ Below w.heap.size w w2 := by
  have hb0 := ((Below.refl w.heap.size w).alloc (Nat.le_refl _) (.cells #[] 3)).drew
  have ho0 : Own (w.alloc (.cells #[] 3)).drew w.heap.size 3 .i64 (.slice (some ⟨w.heap.size, 0, none⟩) ([] : List Int).length 0) [] := (show Own _ _ _ _ _ _ from Own.lit0 w w.heap.size (Nat.le_refl _) 3 .i64)
  have hd : (l.drop k).length = l.length - k := by simp
  have ht : (l.take k).length = k := by simp; omega
  obtain ⟨g1, c1, w1, e1, o1, _, _, b1⟩ := append_own_run (P := Try.prog) 40 40 w.heap.size 3 .i64 8 Try.underlying40 info_int [] w.heap.size 0 ho0 (l.drop k) ad cx (h1.below hb0) (by simp; omega) (by simp; omega) hb0.size
  rw [List.nil_append] at o1
  rw [List.length_nil, Nat.zero_add] at e1 o1
  have hb1 := hb0.trans b1
  obtain ⟨g2, c2, w2, e2, _, r2, l2, b2⟩ := append_own_run (P := Try.prog) 40 40 w.heap.size 3 .i64 8 Try.underlying40 info_int (l.drop k) g1 c1 o1 (l.take k) ad2 cy (h2.below hb1) (by simp; omega) (by simp; omega) hb1.size
  rw [hd] at e1
  rw [hd, ht, Nat.sub_add_cancel hk] at e2
  exact ⟨g1, c1, w1, g2, c2, w2, e1, e2, r2, l2, hb1.trans b2⟩
theorem turned_none (w : World) : (Builtin.append_ #[40, 40] 40 #[.slice (some ⟨w.heap.size, 0, none⟩) 0 0, .slice none 0 0]).run Try.prog (w.alloc (.cells #[] 3)).drew = .ok (.slice (some ⟨w.heap.size, 0, none⟩) 0 0) (w.alloc (.cells #[] 3)).drew := by
  obtain ⟨i0, hi, _⟩ := info_parts info_int
  have ho0 : Own (w.alloc (.cells #[] 3)).drew w.heap.size 3 .i64 (.slice (some ⟨w.heap.size, 0, none⟩) ([] : List Int).length 0) [] := (show Own _ _ _ _ _ _ from Own.lit0 w w.heap.size (Nat.le_refl _) 3 .i64)
  exact run_append_owned_none (P := Try.prog) _ w.heap.size 40 40 3 i0 1 Try.underlying40 hi _ 0 [] ho0
theorem ints_drop {w : World} {q : IntKind} {b o : Nat} {bs : List Int} (h : Ints w q (some ⟨b, o, none⟩) bs) (a : Nat) : Ints w q (some ⟨b, o + a, none⟩) (bs.drop a) := fun k hk => by
  obtain ⟨b', o', e, hlt, hc⟩ := h (a + k) (by simp at hk; omega)
  injection e with e
  injection e with e1 e2
  subst e1 e2
  refine ⟨b, o + a, rfl, hlt, ?_⟩
  rw [Nat.add_assoc, hc]
  simp [List.getD_eq_getElem?_getD]
theorem ints_take {w : World} {q : IntKind} {A : Option Addr} {bs : List Int} (h : Ints w q A bs) (a : Nat) : Ints w q A (bs.take a) := fun k hk => by
  have hk' : k < a ∧ k < bs.length := by simp at hk; omega
  obtain ⟨b', o', e, hlt, hc⟩ := h k hk'.2
  refine ⟨b', o', e, hlt, ?_⟩
  rw [hc]
  simp [List.getD_eq_getElem?_getD, hk'.1]
set_option maxHeartbeats 8000000 in
set_option maxRecDepth 8000 in
attribute [-go_sem] Builtin.append_ in
theorem settles_yes (w : World) (n : Nat) (A : Option Addr) (ca : Nat) (xs : List Int) (t : Int) (hx : Ints w .i64 A xs) (h1 : 1 ≤ n) (h2 : n ≤ 64) (hl : ¬ 200 < (xs.length : Int)) :
    Calls Try.prog 6 #[.int .i64 n, .slice A xs.length ca, .int .i64 t] w fun e w' => e = .returned (.bool true) ∧ Below w.heap.size w w' := by
  have HX := Lib.hid hx
  have HN := Lib.hid (And.intro h1 h2)
  clear hx
  go_enter Try.func6, Try.ntmps6
  go_wp2_with fail
  refine (alive_calls w).mono ?_
  rintro e w1 ⟨rfl, hb1⟩
  go_wp2_with fail
  refine (new_yes w1 n h1 h2).mono ?_
  rintro e w2 ⟨p, mb, rfl, hE, hp, hm2, hb2⟩
  go_wp2_with fail
  refine (rnew_yes w2 n [p, mb] h1 h2 (by have := hE.lt; simp; omega)).mono ?_
  rintro e w3 ⟨rp, sb, rfl, hR, hrp, hsb, hb3⟩
  have H0 := Lib.hid (begun_run hb1 hE hp hm2 hb2 hR hrp hsb hb3)
  clear hb1 hE hp hm2 hb2 hR hrp hsb hb3
  go_wp2_with fail
  go_loopw [11] (fun i wr => ∃ (j : Nat) (s : ERun) (sb c : Nat), j ≤ xs.length ∧ i = .int .i64 j ∧ Run1 w wr p mb rp sb c n s ∧ s.hist.length ≤ j + 1) (fun i _ => xs.length - (intOf i).toNat)
  case atStart => exact ⟨0, run0 n, sb, 1, by omega, rfl, H0.out, by simp [run0]⟩
  case round =>
    obtain ⟨j, s, sb, c, hj, rfl, hr, hs⟩ := hrel
    have HR := Lib.hid hr
    have Hs := Lib.hid hs
    clear hr hs H0
    by_cases hlt : j < xs.length
    · obtain ⟨b, o, rfl, hlb, ck⟩ := HX.out.below HR.out.below j hlt
      have hj0 : (0 : Int) ≤ (j : Int) := by omega
      have hj1 : (j : Int) < (xs.length : Int) := by omega
      generalize xs.getD j 0 = x at ck
      have HD := Lib.hid (do_calls wr p mb rp sb c n s x HR.out.both (by have := Hs.out; omega))
      have HL := Lib.hid (stepE_len n s x)
      go_wp2_with fail
      refine HD.out.mono ?_
      rintro e w4 ⟨rfl, hd⟩
      obtain ⟨sb', c', hr'⟩ := HR.out.next hd
      have HR' := Lib.hid hr'
      clear hd hr'
      go_wp2_with fail
      go_roundw
      case rel => exact ⟨j + 1, stepE n s x, sb', c', by omega, by go_num, HR'.out, by have := HL.out; have := Hs.out; omega⟩
      case measure => simp [intOf]; omega
    · obtain rfl : j = xs.length := by omega
      go_wp2_with fail
      refine (behind_calls _ p mb n s HR.out.both.e).mono ?_
      rintro e w5 ⟨v, rfl, hO, hb5⟩
      have HSh := Lib.hid (own_cases hO)
      obtain ⟨B, cb, rfl, _⟩ := hO.src
      have HW5 := Lib.hid hb5.size
      have HR5 := Lib.hid (HR.out.on hb5)
      have HPM := Lib.hid HR.out.both.e.lt
      clear hO hb5 HR
      have hz : (((behV s).length : Int) == 0) = setV s := by unfold setV; rw [Bool.eq_iff_iff]; simp
      have hz2 : (setV s != setV s) = false := by simp
      have HT := Lib.hid (todo_turned HR5.out.both.e.ok)
      have HLb := Lib.hid (beh_len HR5.out.both.e.ok)
      have HS := Lib.hid (settled_calls w5 p mb n s HR5.out.both.e)
      generalize setV s = sv at hz hz2 HS
      generalize behV s = l at HSh hz HT HLb ⊢
      go_wp2_with fail
      refine HS.out.mono ?_
      rintro e w6 ⟨rfl, hb6⟩
      have HSh6 := Lib.hid (HSh.out.below hb6)
      have HR6 := Lib.hid (HR5.out.on hb6)
      clear hb6 HSh HR5 HS
      go_upto_region 16 with fail
      obtain ⟨bb, hbb⟩ : ∃ bb, bb = decide (t < 0 ∨ (l.length : Int) < t) := ⟨_, rfl⟩
      have Hbb := Lib.hid hbb
      clear hbb
      go_cut [2, 70] (fun t' s70 wc => t' = .int .i64 t ∧ s70 = .bool bb ∧ w6 = wc)
      case first =>
        by_cases ht : t < 0
        · go_wp2_with fail
          go_meet
          exact ⟨rfl, by rw [Hbb.out]; simp; omega, rfl⟩
        · by_cases ht2 : (l.length : Int) < t
          · go_wp2_with fail
            go_meet
            exact ⟨rfl, by rw [Hbb.out]; simp; omega, rfl⟩
          · go_wp2_with fail
            go_meet
            exact ⟨rfl, by rw [Hbb.out]; simp; omega, rfl⟩
      case rest =>
      obtain ⟨rfl, rfl, rfl⟩ := hcut
      rename_i hkk
      refine hkk _ _ ?_
      clear hkk
      go_cut [2] (fun t' wc => ∃ k : Nat, k ≤ l.length ∧ t' = .int .i64 k ∧ w6 = wc)
      case first =>
        by_cases ht : t < 0 ∨ (l.length : Int) < t
        · obtain rfl : bb = true := by rw [Hbb.out, decide_eq_true ht]
          go_wp2_with fail
          go_meet
          exact ⟨0, by omega, rfl, rfl⟩
        · obtain rfl : bb = false := by rw [Hbb.out, decide_eq_false ht]
          go_wp2_with fail
          go_meet
          exact ⟨t.toNat, by omega, by rw [Int.toNat_of_nonneg (by omega)], rfl⟩
      case rest =>
      obtain ⟨k, hk, rfl, rfl⟩ := hcut
      have hk0 : (0 : Int) ≤ (k : Int) := by omega
      have hk1 : (k : Int) ≤ (l.length : Int) := by omega
      go_upto_region 18 with fail
      go_cut [12] (fun v wc => ∃ g c', v = .slice (some ⟨g, 0, none⟩) l.length c' ∧ Row wc 3 g c' ((l.drop k ++ l.take k).map (.int .i64)) ∧ w6.heap.size ≤ g ∧ Below w6.heap.size w6 wc)
      case first =>
        rcases HSh6.out with ⟨hv, hl⟩ | ⟨g, c, hv, hrow, hg⟩
        · injection hv with hv1 hv2 hv3
          subst hl
          obtain rfl : k = 0 := by simpa using hk
          subst hv1
          subst hv3
          have r1 := turned_none w6
          go_region_with fail
          all_goals
            go_wp2_with fail
            go_meet
            exact ⟨_, _, rfl, (show Row (w6.alloc (.cells #[] 3)) 3 w6.heap.size 0 [] from Row.lit w6 [] 3 (by decide)), Nat.le_refl _, ((Below.refl w6.heap.size w6).alloc (Nat.le_refl _) _).drew⟩
        · injection hv with hv1 hv2 hv3
          subst hv1
          subst hv3
          have HI := hrow.ints
          have HL := Lib.hid (show l.length ≤ 64 by have := HLb.out; omega)
          have hcap := hrow.cap.1
          rw [List.length_map] at hcap
          by_cases hck : cb = k
          · obtain rfl : k = l.length := by omega
            subst hck
            have hemp : Ints w6 .i64 (some ⟨g, 0, none⟩) (l.drop l.length) := by rw [List.drop_eq_nil_of_le (Nat.le_refl _)]; exact fun k hk => absurd hk (by simp)
            obtain ⟨g1, c1, w1, g2, c2, w2, r1, r2, hrow2, hg2, hbw⟩ := turned_run w6 l l.length hk HL.out ⟨g, 0, none⟩ ⟨g, 0, none⟩ 0 l.length hemp (ints_take HI l.length)
            rw [Nat.sub_self] at r1 r2
            have HRes := Lib.hid (And.intro hrow2 (And.intro hg2 hbw))
            clear hrow hg HI hemp hrow2 hg2 hbw
            go_region_with fail
            all_goals
              go_wp2_with fail
              go_meet
              exact ⟨_, _, rfl, HRes.out⟩
          · obtain ⟨g1, c1, w1, g2, c2, w2, r1, r2, hrow2, hg2, hbw⟩ := turned_run w6 l k hk HL.out ⟨g, k, none⟩ ⟨g, 0, none⟩ (cb - k) cb (by have := ints_drop HI k; rwa [Nat.zero_add] at this) (ints_take HI k)
            have HRes := Lib.hid (And.intro hrow2 (And.intro hg2 hbw))
            clear hrow hg HI hrow2 hg2 hbw
            go_region_with fail
            all_goals
              go_wp2_with fail
              go_meet
              exact ⟨_, _, rfl, HRes.out⟩
      case rest =>
      obtain ⟨g, c', rfl, hrow, hg, hbw⟩ := hcut
      have HE := Lib.hid (HR6.out.both.e.below hbw)
      have HB := Lib.hid (below_then HR6.out.below hbw)
      have HM := Lib.hid (show (g ≠ p ∧ g ≠ mb) ∧ ∀ x ∈ [p, mb], w.heap.size ≤ x from by
        have a := HR6.out.both.e.lt
        have b := HR6.out.mine
        refine ⟨by omega, ?_⟩
        simp
        omega)
      have hlen : (l.drop k ++ l.take k).length = l.length := by simp; omega
      have HT0 := Lib.hid (HT.out k)
      have HRow := Lib.hid hrow
      clear hrow hg hbw HT HR6 hz hz2 Hbb HSh6
      generalize l.drop k ++ l.take k = ts at hlen HT0 HRow
      rw [← hlen] at HLb ⊢
      clear hlen hk hk0 hk1
      go_wp2_with fail
      go_loopw [13] (fun i wr => ∃ (j : Nat) (s : ERun), j ≤ ts.length ∧ i = .int .i64 j ∧ EpAt wr p mb n s ∧ Todo n s (ts.drop j) ∧ s.hist.length ≤ 201 + j ∧ Row wr 3 g c' (ts.map (.int .i64)) ∧ Below w.heap.size w wr) (fun i _ => ts.length - (intOf i).toNat)
      case atStart => exact ⟨0, s, by omega, rfl, HE.out, by rw [List.drop_zero]; exact HT0.out, by have := Hs.out; omega, HRow.out, HB.out⟩
      case round =>
        obtain ⟨j, s1, hj, rfl, hE, hT, hh, hrow, hb⟩ := hrel
        have HE1 := Lib.hid hE
        have HT1 := Lib.hid hT
        have HH1 := Lib.hid hh
        have HRow1 := Lib.hid hrow
        have HB1 := Lib.hid hb
        clear hE hT hh hrow hb HE HT0 HRow HB Hs
        by_cases hlt : j < ts.length
        · have hj0 : (0 : Int) ≤ (j : Int) := by omega
          have hj1 : (j : Int) < (ts.length : Int) := by omega
          have hjm := HLb.out
          have hT := HT1.out
          rw [drop_int hlt] at hT
          have HC := Lib.hid (fun (w' : World) (hr : Row w' 3 g c' (ts.map (.int .i64))) => (show w'.cell? ⟨g, j, none⟩ = some (.int .i64 (ts.getD j 0)) from by
            rw [hr.cell (by simpa using hlt)]
            simp [List.getD_eq_getElem?_getD, hlt]))
          generalize ts.getD j 0 = x at hT HC
          obtain ⟨f1, f2⟩ := hT.least
          obtain ⟨f3, f4, f5, f6, f7⟩ := hT.step
          have HT2 := Lib.hid f4
          have HL2 := Lib.hid (step_len n s1 x)
          have hle : (leastV s1 == s1.now) = false := by rw [beq_eq_false_iff_ne]; exact f1
          have CS := Lib.hid ((settled_calls wr p mb n s1 HE1.out).mono (R' := fun e w'' => e = .returned (.bool false) ∧ Below wr.heap.size wr w'') (fun e w'' h => ⟨by rw [h.1, f2], h.2⟩))
          have CL := Lib.hid (fun (w' : World) (hb : Below wr.heap.size wr w') => (least_calls w' p mb n s1 (HE1.out.below hb)).mono (R' := fun e w'' => e = .returned (.int .u64 (leastV s1)) ∧ Below wr.heap.size wr w'') (fun e w'' h => ⟨h.1, below_then hb h.2⟩))
          have CN := Lib.hid (fun (w' : World) (hb : Below wr.heap.size wr w') => now_calls w' p mb n s1 (HE1.out.below hb))
          have CA := Lib.hid (fun (w' : World) (hb : Below wr.heap.size wr w') => (ack_calls w' p mb n s1 x (HE1.out.below hb) (by have := HH1.out; omega)).mono (R' := Adds p mb n (stepA n s1 x) (.int .i64 0) w') (fun e w'' h => by rw [f3] at h; exact h))
          have CA2 := Lib.hid (fun (w' : World) (hE' : EpAt w' p mb n (stepA n s1 x)) => (ack_calls w' p mb n (stepA n s1 x) x hE' (by have := HH1.out; have := HL2.out; omega)).mono (R' := Adds p mb n (stepA n s1 x) (.int .i64 15) w') (fun e w'' h => by rw [f5, f6] at h; exact h))
          have CE := Lib.hid (fun (w' : World) (hE' : EpAt w' p mb n (stepA n s1 x)) => (seen_calls w' p mb n (stepA n s1 x) x hE').mono (R' := fun e w'' => e = .returned (.int .u64 (stepA n s1 x).now) ∧ w' = w'') (fun e w'' h => by rw [f7] at h; exact h))
          have CN2 := Lib.hid (fun (w' : World) (hE' : EpAt w' p mb n (stepA n s1 x)) => now_calls w' p mb n (stepA n s1 x) hE')
          have hnn : ∀ z : Int, (z != z) = false := fun z => by simp
          have HRk := Lib.hid (fun (w' w'' : World) (hr : Row w' 3 g c' (ts.map (.int .i64))) (k : Kept [p, mb] w' w'') => (show Row w'' 3 g c' (ts.map (.int .i64)) from hr.kept k (by have := HM.out.1; simp; omega)))
          clear hT f1 f2 f3 f4 f5 f6 f7
          generalize stepA n s1 x = s2 at HT2 HL2 CA CA2 CE CN2
          generalize leastV s1 = lv at hle CL
          generalize s1.now = nw1 at hle CN
          generalize hnw : s2.now = nw2 at CE CN2
          have hn2 := hnn nw2
          clear hnw hnn
          go_wp2_with (first
            | (go_at_call 40; (with_reducible refine (Calls.mono CS.out ?_)); rintro e w12 ⟨rfl, hb12⟩)
            | (go_at_call 36; (with_reducible refine (Calls.mono (CL.out _ hb12) ?_)); rintro e w13 ⟨rfl, hb13⟩; have hr13 := HRow1.out.below hb13; have c13 := HC.out _ hr13)
            | (go_at_call 31; (with_reducible refine (Calls.mono (CN.out _ hb13) ?_)); rintro e w14 ⟨rfl, rfl⟩)
            | (go_at_call 43; (with_reducible refine (Calls.mono (CA.out _ hb13) ?_)); rintro e w15 ⟨rfl, hE15, hk15⟩; have hr15 := HRk.out _ _ hr13 hk15; have c15 := HC.out _ hr15)
            | (go_at_call 43; (with_reducible refine (Calls.mono (CA2.out _ hE15) ?_)); rintro e w16 ⟨rfl, hE16, hk16⟩; have hr16 := HRk.out _ _ hr15 hk16; have c16 := HC.out _ hr16)
            | (go_at_call 35; (with_reducible refine (Calls.mono (CE.out _ hE16) ?_)); rintro e w17 ⟨rfl, rfl⟩)
            | (go_at_call 31; (with_reducible refine (Calls.mono (CN2.out _ hE16) ?_)); rintro e w18 ⟨rfl, rfl⟩)
            | fail)
          go_roundw
          case rel => exact ⟨j + 1, s2, by omega, by go_num, hE16, HT2.out, by have := HL2.out; have := HH1.out; omega, hr16, below_kept (below_kept (below_then HB1.out hb13) hk15 (below_then HB1.out hb13).size HM.out.2) hk16 (below_kept (below_then HB1.out hb13) hk15 (below_then HB1.out hb13).size HM.out.2).size HM.out.2⟩
          case measure => simp [intOf]; omega
        · obtain rfl : j = ts.length := by omega
          have hT := HT1.out
          rw [List.drop_eq_nil_of_le (Nat.le_refl _)] at hT
          obtain ⟨f1, f2, f3, f4, f5⟩ := hT.done
          have hjm := HLb.out
          have hsz := HB1.out.size
          have hw : IntKind.u64.wrap (s1.now + 1) = s1.now + 1 := by
            have a := HE1.out.ok.now0
            have b := HE1.out.ok.now1
            have c := HH1.out
            simp [IntKind.wrap, IntKind.bits, IntKind.signed]; omega
          have CN := Lib.hid (now_calls wr p mb n s1 HE1.out)
          have CS := Lib.hid ((settled_calls wr p mb n s1 HE1.out).mono (R' := fun e w'' => e = .returned (.bool true) ∧ Below wr.heap.size wr w'') (fun e w'' h => ⟨by rw [h.1, f1], h.2⟩))
          have CL := Lib.hid (fun (w' : World) (hb : Below wr.heap.size wr w') => (least_calls w' p mb n s1 (HE1.out.below hb)).mono (R' := fun e w'' => e = .returned (.int .u64 s1.now) ∧ Below wr.heap.size wr w'') (fun e w'' h => ⟨by rw [h.1, f2], below_then hb h.2⟩))
          have CB := Lib.hid (fun (w' : World) (hb : Below wr.heap.size wr w') => (behind_calls w' p mb n s1 (HE1.out.below hb)).mono (R' := fun e w'' => ∃ A c, e = .returned (.slice A 0 c) ∧ Below wr.heap.size wr w'') (fun e w'' h => by
            obtain ⟨v, e1, hO, hb2⟩ := h
            rw [f3] at hO
            obtain ⟨A, c, rfl, _⟩ := hO.shape
            exact ⟨A, c, e1, below_then hb hb2⟩))
          have CX := Lib.hid (fun (w' : World) (hb : Below wr.heap.size wr w') => next_calls w' p mb n s1 (HE1.out.below hb) (by have := HH1.out; omega))
          have CB2 := Lib.hid (fun (w' : World) (hE' : EpAt w' p mb n (nextE s1)) => (behind_calls w' p mb n (nextE s1) hE').mono (R' := fun e w'' => ∃ A c, e = .returned (.slice A n c) ∧ Below w'.heap.size w' w'') (fun e w'' h => by
            obtain ⟨v, e1, hO, hb2⟩ := h
            obtain ⟨A, c, rfl, _⟩ := hO.shape
            rw [f4] at e1
            exact ⟨A, c, e1, hb2⟩))
          have CL2 := Lib.hid (fun (w' w'' : World) (hE' : EpAt w' p mb n (nextE s1)) (hb : Below w'.heap.size w' w'') => (least_calls w'' p mb n (nextE s1) (hE'.below hb)).mono (R' := fun e w3 => e = .returned (.int .u64 s1.now) ∧ Below w'.heap.size w' w3) (fun e w3 h => ⟨by rw [h.1, f5], below_then hb h.2⟩))
          clear hT f1 f2 f3 f4 f5
          generalize s1.now = nw at hw CN CL CL2 CX
          go_wp2_with (first
            | (go_at_call 31; (with_reducible refine (Calls.mono CN.out ?_)); rintro e w11 ⟨rfl, rfl⟩)
            | (go_at_call 40; (with_reducible refine (Calls.mono CS.out ?_)); rintro e w12 ⟨rfl, hb12⟩)
            | (go_at_call 36; (with_reducible refine (Calls.mono (CL.out _ hb12) ?_)); rintro e w13 ⟨rfl, hb13⟩)
            | (go_at_call 38; (with_reducible refine (Calls.mono (CB.out _ hb13) ?_)); rintro e w14 ⟨A14, c14, rfl, hb14⟩)
            | (go_at_call 44; (with_reducible refine (Calls.mono (CX.out _ hb14) ?_)); rintro e w15 ⟨rfl, hE15, hk15⟩)
            | (go_at_call 38; (with_reducible refine (Calls.mono (CB2.out _ hE15) ?_)); rintro e w16 ⟨A16, c16, rfl, hb16⟩)
            | (go_at_call 36; (with_reducible refine (Calls.mono (CL2.out _ _ hE15 hb16) ?_)); rintro e w17 ⟨rfl, hb17⟩)
            | fail)
          go_ret
          exact ⟨by simp, below_then (below_kept (below_then HB1.out hb14) hk15 (below_then HB1.out hb14).size HM.out.2) hb17⟩
end Go.Proofs.Ytchnhmcedmicgaa.Epo
