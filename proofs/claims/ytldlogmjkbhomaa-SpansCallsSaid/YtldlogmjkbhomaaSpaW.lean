/- The contract of package spans' Give. -/
import Derived.Test.YtldlogmjkbhomaaSpaV
set_option linter.unusedSimpArgs false
namespace Go.Proofs.Ytldlogmjkbhomaa.Spa
open Go.RowKit Go.Proofs.Ytldlogmjkbhomaa.Aid
theorem giveS_none {page : Int} {xs : List Rn} (h : findT xs page = none) : giveS page xs = xs ∧ giveN page xs = 0 ∧ giveE page xs = 12 := by
  unfold giveS giveN giveE
  rw [h]
  exact ⟨rfl, rfl, rfl⟩
theorem giveS_some {page : Int} {xs : List Rn} {k : Nat} (h : findT xs page = some k) : giveS page xs = giveX xs k ∧ giveN page xs = ((xs.getD k r0).n : Nat) ∧ giveE page xs = 0 := by
  unfold giveS giveN giveE
  rw [h]
  exact ⟨rfl, rfl, rfl⟩
section
variable (w : World) (p : Nat) (F : List Nat) (P : Nat) (xs : List Rn) (h : SpAt w p F P xs)
include h
theorem give_out (page : Int) (hp : page < 0 ∨ (P : Int) ≤ page) : Calls Try.prog 56 #[.pointer (some ⟨p, 0, none⟩), .int .i64 page] w fun e w' => e = .returned (.tuple #[.int .i64 (giveN page xs), .int .i64 (giveE page xs)]) ∧ Spw w p F P (giveS page xs) w' := by
  obtain ⟨e1, e2, e3⟩ := giveS_none (findT_out h.ok hp)
  rw [e1, e2, e3]
  have HF := Lib.hid (find_no w p F P xs h page hp)
  have HH := Lib.hid h
  clear h hp e1 e2 e3
  go_enter Try.func56, Try.ntmps56
  go_wp2_with fail
  refine HF.out.mono ?_
  rintro e w1 ⟨rfl, hb1⟩
  have HB := Lib.hid (hb1.alloc hb1.size (.cells #[.int .i64 0, .int .i64 0, .bool false] RT))
  clear hb1
  go_wp2_with fail
  go_ret2
  exact ⟨rfl, spw_same HH.out HB.out⟩
set_option maxHeartbeats 1000000 in
theorem give_not (i k : Nat) (hk : k < xs.length) (h1 : (xs.getD k r0).p ≤ i) (h2 : i < (xs.getD k r0).p + (xs.getD k r0).n) (hn : ¬ ((xs.getD k r0).t = true ∧ (xs.getD k r0).p = i)) : Calls Try.prog 56 #[.pointer (some ⟨p, 0, none⟩), .int .i64 i] w fun e w' => e = .returned (.tuple #[.int .i64 (giveN i xs), .int .i64 (giveE i xs)]) ∧ Spw w p F P (giveS i xs) w' := by
  obtain ⟨e1, e2, e3⟩ := giveS_none (show findT xs (i : Int) = none by rw [findT_at h.ok hk h1 h2, if_neg hn])
  rw [e1, e2, e3]
  have HF := Lib.hid (find_yes w p F P xs h k i hk h1 h2)
  have HH := Lib.hid h
  clear h e1 e2 e3 hk h1 h2
  generalize xs.getD k r0 = r at HF hn
  cases ht : r.t with
  | false =>
    rw [ht] at HF
    clear ht hn
    go_enter Try.func56, Try.ntmps56
    go_wp2_with fail
    refine HF.out.mono ?_
    rintro e w1 ⟨rfl, hb1⟩
    have HB := Lib.hid (hb1.alloc hb1.size (.cells #[.int .i64 r.p, .int .i64 r.n, .bool false] RT))
    clear hb1
    go_wp2_with fail
    go_ret2
    exact ⟨rfl, spw_same HH.out HB.out⟩
  | true =>
    rw [ht] at HF hn
    have hne : (((r.p : Nat) : Int) != (i : Int)) = true := by simp; intro e; exact hn ⟨rfl, by omega⟩
    clear ht hn
    go_enter Try.func56, Try.ntmps56
    go_wp2_with fail
    refine HF.out.mono ?_
    rintro e w1 ⟨rfl, hb1⟩
    have HB := Lib.hid (hb1.alloc hb1.size (.cells #[.int .i64 r.p, .int .i64 r.n, .bool true] RT))
    clear hb1
    go_wp2_with fail
    go_ret2
    exact ⟨rfl, spw_same HH.out HB.out⟩
set_option maxHeartbeats 4000000 in
set_option maxRecDepth 100000 in
theorem give_yes (k : Nat) (hk : k < xs.length) (ht : (xs.getD k r0).t = true) : Calls Try.prog 56 #[.pointer (some ⟨p, 0, none⟩), .int .i64 (xs.getD k r0).p] w fun e w' => e = .returned (.tuple #[.int .i64 (xs.getD k r0).n, .int .i64 0]) ∧ Spw w p F P (giveX xs k) w' := by
  have hpn := pos_n h.ok hk
  have hL := len_le h.ok
  have hP4 := h.ok.n
  have HF := Lib.hid (find_yes w p F P xs h k (xs.getD k r0).p hk (Nat.le_refl _) (by omega))
  have HI := Lib.hid (fun W (hb : Below w.heap.size w W) => index_calls W p F P xs k (xs.getD k r0).p (h.below hb) hk (Nat.le_refl _) (by omega))
  have hok := give_ok h.ok hk
  have hN := fun j (hj : j < xs.length) => pos_n h.ok hj
  obtain ⟨hd, hPp⟩ := h.ex
  obtain ⟨A, c, rfl, hat⟩ := Hdr.open3 hPp.runs
  obtain ⟨g, rfl, _⟩ := hat k hk
  have HRx : Recs encR 3 w RT g c xs := by
    rcases hPp.runs with ⟨e, _⟩ | ⟨g2, c2, e, hR⟩
    · cases e
    · injection e with e5 e6 e7
      injection e5 with e5
      injection e5 with e5
      subst e5
      subst e7
      exact hR
  have HRr := Lib.hid HRx
  have HPp := Lib.hid hPp
  have HOk := Lib.hid hok
  have HQ := Lib.hid (fun W (hb : Below w.heap.size w W) => (show W.cell? ⟨p, 1, none⟩ = some (.slice (some ⟨g, 0, none⟩) xs.length c) from (hPp.head.below hb).cell (o := 1) rfl))
  have HCs := Lib.hid (fun W (hb : Below w.heap.size w W) j (hj : j < xs.length) => recs3 (HRx.below hb) hj)
  have HN := Lib.hid hN
  unfold giveX at hok
  rw [ht] at HF
  have hk0 : (0 : Int) ≤ (k : Int) := by omega
  have hk1 : (k : Int) < (xs.length : Int) := by omega
  obtain ⟨r, hr⟩ : ∃ r, r = xs.getD k r0 := ⟨_, rfl⟩
  have Hr := Lib.hid hr
  rw [← hr] at HF HI hpn ⊢
  obtain ⟨s, hs⟩ : ∃ s, s = xs.getD (k + 1) r0 := ⟨_, rfl⟩
  have Hs := Lib.hid hs
  obtain ⟨q, hq⟩ : ∃ q, q = xs.getD (k - 1) r0 := ⟨_, rfl⟩
  have Hq := Lib.hid hq
  clear hs hq
  clear h hPp hat HRx hok ht hN hr
  go_enter Try.func56, Try.ntmps56
  go_wp2_with fail
  refine HF.out.mono ?_
  rintro e w1 ⟨rfl, hb1⟩
  have hbk := Blk.new w1 #[.int .i64 r.p, .int .i64 r.n, .bool true] RT
  have hbz := hb1.alloc hb1.size (.cells #[.int .i64 r.p, .int .i64 r.n, .bool true] RT)
  have hz1 := hb1.size
  go_upto_region 2 with fail
  generalize w1.alloc (.cells #[.int .i64 r.p, .int .i64 r.n, .bool true] RT) = wx at hbk hbz ⊢
  generalize w1.heap.size = bq at hbk hz1 ⊢
  have HZ := Lib.hid (And.intro hbz (And.intro hbk hz1))
  have s0 := hbk.cell (o := 0) rfl
  have s1 := hbk.cell (o := 1) rfl
  have s2 := hbk.cell (o := 2) rfl
  clear hb1 hbz hbk hz1
  go_wp2_with fail
  refine (HI.out wx HZ.out.1).mono ?_
  rintro e w2 ⟨rfl, hb2⟩
  have hbk2 := HZ.out.2.1.below hb2
  have HZ2 := Lib.hid (And.intro (HZ.out.1.trans (hb2.mono HZ.out.1.size)) (And.intro hbk2 HZ.out.2.2))
  have s1' := hbk2.cell (o := 1) rfl
  have s2' := hbk2.cell (o := 2) rfl
  have s2f := hbk2.free 2
  clear s0 s1 s2 hb2 hbk2 HZ
  go_upto_region 8 with fail
  have HZ3 := Lib.hid (show Below w.heap.size w (w2.setCell ⟨bq, 2, none⟩ (.bool false)) ∧ Blk (w2.setCell ⟨bq, 2, none⟩ (.bool false)) bq #[.int .i64 r.p, .int .i64 r.n, .bool false] RT ∧ w.heap.size ≤ bq from
    ⟨HZ2.out.1.setCell HZ2.out.2.2 _, HZ2.out.2.1.set 2 _, HZ2.out.2.2⟩)
  clear s1' s2' s2f HZ2
  generalize w2.setCell ⟨bq, 2, none⟩ (.bool false) = w3 at HZ3 ⊢
  have c1 := HQ.out w3 HZ3.out.1
  go_cut [55] (fun v wc => v = .bool (upR xs k) ∧ wc = w3)
  case first =>
    by_cases hk3 : k + 1 < xs.length
    · obtain ⟨_, _, d2⟩ := HCs.out w3 HZ3.out.1 (k + 1) hk3
      have hk4 : ((k : Int) + 1) < (xs.length : Int) := by omega
      have hk5 : (0 : Int) ≤ (k : Int) + 1 := by omega
      have hk6 : ((k : Int) + 1).toNat = k + 1 := by omega
      have HK3 := Lib.hid hk3
      clear hk3
      go_wp2_with fail
      go_meet
      exact ⟨by unfold upR; rw [decide_eq_true HK3.out]; simp, rfl⟩
    · have hk4 : ¬ ((k : Int) + 1) < (xs.length : Int) := by omega
      have HK3 := Lib.hid hk3
      clear hk3
      go_wp2_with fail
      go_meet
      exact ⟨by unfold upR; rw [decide_eq_false HK3.out]; simp, rfl⟩
  case rest =>
  obtain ⟨rfl, rfl⟩ := hcut
  rename_i hkk
  refine hkk _ _ ?_
  clear hkk
  go_cut [9] (fun v wc => v = .int .i64 ((if upR xs k = true then k + 2 else k + 1 : Nat) : Int) ∧ Below w.heap.size w wc ∧ Blk wc bq #[.int .i64 r.p, .int .i64 ((r.n + (if upR xs k = true then s.n else 0) : Nat) : Int), .bool false] RT)
  case first =>
    rcases up_cases xs k with ⟨u, _⟩ | ⟨u, hk3, _, _⟩
    · rw [u]
      have HU := Lib.hid u
      clear u
      go_wp2_with fail
      go_meet
      exact ⟨by simp [HU.out], HZ3.out.1, by simpa [HU.out] using HZ3.out.2.1⟩
    · rw [u]
      have HU := Lib.hid u
      obtain ⟨_, d1, _⟩ := HCs.out wc HZ3.out.1 (k + 1) hk3
      have hn4 := HN.out (k + 1) hk3
      rw [← Hs.out] at d1 hn4
      have hk4 : ((k : Int) + 1) < (xs.length : Int) := by omega
      have hk5 : (0 : Int) ≤ (k : Int) + 1 := by omega
      have hk6 : ((k : Int) + 1).toNat = k + 1 := by omega
      have s1 := HZ3.out.2.1.cell (o := 1) rfl
      have s1f := HZ3.out.2.1.free 1
      have hrs : (r.n : Int) + (s.n : Int) ≤ 10000 := by omega
      have hws : IntKind.i64.wrap ((r.n : Int) + (s.n : Int)) = (r.n : Int) + (s.n : Int) := by rw [i64_wrap]; unfold wrap64; omega
      have HBk := Lib.hid ((HZ3.out.2.1).set 1 (.int .i64 ((r.n : Int) + (s.n : Int))))
      clear u
      go_wp2_with fail
      go_region_with (fail)
      all_goals
        go_wp2_with fail
        go_meet
        exact ⟨by simp [HU.out]; omega, (HZ3.out.1.setCell HZ3.out.2.2 _).drew, by
          have := HBk.out.drew
          simpa [HU.out] using this⟩
  case rest =>
  obtain ⟨rfl, hb4, hk4⟩ := hcut
  have HT := Lib.hid (show k < (if upR xs k = true then k + 2 else k + 1) ∧ (if upR xs k = true then k + 2 else k + 1) ≤ xs.length from by
    rcases up_cases xs k with ⟨u, _⟩ | ⟨u, hk3, _, _⟩
    · rw [u]; simp; omega
    · rw [u]; simp; omega)
  have hn1 : (r.n + (if upR xs k = true then s.n else 0)) ≤ 8192 := by
    rcases up_cases xs k with ⟨u, _⟩ | ⟨u, hk3, _, _⟩
    · rw [u]; simp; omega
    · have := HN.out (k + 1) hk3
      rw [← Hs.out] at this
      rw [u]; simp; omega
  have HG := Lib.hid (show giveR xs k = ⟨if dnR xs k = true then q.p else r.p, (r.n + (if upR xs k = true then s.n else 0)) + (if dnR xs k = true then q.n else 0), false⟩ from by unfold giveR; rw [Hs.out, Hq.out, Hr.out])
  have HX := Lib.hid (show giveX xs k = xs.take (if dnR xs k = true then k - 1 else k) ++ giveR xs k :: xs.drop (if upR xs k = true then k + 2 else k + 1) from rfl)
  generalize (r.n + (if upR xs k = true then s.n else 0)) = n1 at hk4 hn1 HG
  generalize (if upR xs k = true then k + 2 else k + 1) = T at HT HX ⊢
  have HZ4 := Lib.hid (And.intro hb4 (And.intro hk4 HZ3.out.2.2))
  clear c1 hb4 hk4 HZ3
  have c1 := HQ.out wc HZ4.out.1
  go_upto_region 11 with fail
  go_cut [83] (fun v wc2 => v = .bool (dnR xs k) ∧ wc = wc2)
  case first =>
    by_cases hk3 : 0 < k
    · obtain ⟨_, _, d2⟩ := HCs.out wc HZ4.out.1 (k - 1) (by omega)
      rw [← Hq.out] at d2
      have hk4 : (0 : Int) < (k : Int) := by omega
      have hk5 : (0 : Int) ≤ (k : Int) - 1 := by omega
      have hk6 : ((k : Int) - 1).toNat = k - 1 := by omega
      have hk7 : (k : Int) - 1 < (xs.length : Int) := by omega
      have HK3 := Lib.hid hk3
      clear hk3
      go_wp2_with fail
      go_meet
      exact ⟨by unfold dnR; rw [decide_eq_true HK3.out, ← Hq.out]; simp, rfl⟩
    · have hk4 : ¬ (0 : Int) < (k : Int) := by omega
      have HK3 := Lib.hid hk3
      clear hk3
      go_wp2_with fail
      go_meet
      exact ⟨by unfold dnR; rw [decide_eq_false HK3.out]; simp, rfl⟩
  case rest =>
  obtain ⟨rfl, rfl⟩ := hcut
  rename_i hkk
  refine hkk _ _ ?_
  clear hkk
  go_cut [8] (fun v wc2 => v = .int .i64 ((if dnR xs k = true then k - 1 else k : Nat) : Int) ∧ Below w.heap.size w wc2 ∧ Blk wc2 bq (encR (giveR xs k)).toArray RT)
  case first =>
    rcases dn_cases xs hk with ⟨u, _⟩ | ⟨u, hk3, _, _⟩
    · rw [u]
      have HU := Lib.hid u
      clear u
      go_wp2_with fail
      go_meet
      exact ⟨by simp [HU.out], HZ4.out.1, by rw [HG.out]; simpa [HU.out, encR] using HZ4.out.2.1⟩
    · rw [u]
      have HU := Lib.hid u
      obtain ⟨d0, d1, _⟩ := HCs.out wc HZ4.out.1 (k - 1) (by omega)
      have hn4 := HN.out (k - 1) (by omega)
      rw [← Hq.out] at d0 d1 hn4
      have hk4 : (0 : Int) < (k : Int) := by omega
      have hk5 : (0 : Int) ≤ (k : Int) - 1 := by omega
      have hk6 : ((k : Int) - 1).toNat = k - 1 := by omega
      have hk7 : (k : Int) - 1 < (xs.length : Int) := by omega
      have hbg : bq ≠ g ∧ bq ≠ p := by
        have h1 := HRr.out.lt
        have h2 := HPp.out.head.lt
        have h3 := HZ4.out.2.2
        omega
      obtain ⟨hbg1, hbg2⟩ := hbg
      have s0 := HZ4.out.2.1.cell (o := 0) rfl
      have s0f := HZ4.out.2.1.free 0
      clear u
      go_upto_region 14 with fail
      have HB5 := Lib.hid (show Below w.heap.size w (wc.setCell ⟨bq, 0, none⟩ (.int .i64 q.p)) ∧ Blk (wc.setCell ⟨bq, 0, none⟩ (.int .i64 q.p)) bq #[.int .i64 q.p, .int .i64 n1, .bool false] RT from
        ⟨HZ4.out.1.setCell HZ4.out.2.2 _, HZ4.out.2.1.set 0 _⟩)
      clear s0 s0f d0 d1 c1
      generalize wc.setCell ⟨bq, 0, none⟩ (.int .i64 q.p) = w5 at HB5 ⊢
      have c1 := HQ.out w5 HB5.out.1
      obtain ⟨d0, d1, _⟩ := HCs.out w5 HB5.out.1 (k - 1) (by omega)
      rw [← Hq.out] at d0 d1
      have s1 := HB5.out.2.cell (o := 1) rfl
      have s1f := HB5.out.2.free 1
      have hrs : (n1 : Int) + (q.n : Int) ≤ 20000 := by omega
      have hws : IntKind.i64.wrap ((n1 : Int) + (q.n : Int)) = (n1 : Int) + (q.n : Int) := by rw [i64_wrap]; unfold wrap64; omega
      have HBk := Lib.hid ((HB5.out.2).set 1 (.int .i64 ((n1 : Int) + (q.n : Int))))
      go_region_with (fail)
      all_goals
        go_wp2_with fail
        go_meet
        exact ⟨by simp [HU.out]; omega, (HB5.out.1.setCell HZ4.out.2.2 _).drew, by
          have := HBk.out.drew
          rw [HG.out]
          simpa [HU.out, encR] using this⟩
  case rest =>
  obtain ⟨rfl, hb5, hk5⟩ := hcut
  have HF2 := Lib.hid (show (if dnR xs k = true then k - 1 else k) < T from by
    have := HT.out
    split <;> omega)
  generalize (if dnR xs k = true then k - 1 else k) = f at HX HF2 ⊢
  generalize giveR xs k = R at HX HG hk5
  have HZ5 := Lib.hid (And.intro hb5 (And.intro hk5 HZ4.out.2.2))
  clear hb5 hk5 c1 HZ4 HG hn1
  have hT := HT.out.2
  have hfT := HF2.out
  have c1 := HQ.out wc HZ5.out.1
  have s0 := HZ5.out.2.1.cell (o := 0) (v := .int .i64 R.p) rfl
  have s1 := HZ5.out.2.1.cell (o := 1) (v := .int .i64 R.n) rfl
  have s2 := HZ5.out.2.1.cell (o := 2) (v := .bool R.t) rfl
  have hal := HZ5.out.1.drew.alloc HZ5.out.1.drew.size (.cells (encR R).toArray RT)
  have hRl := Recs.lit wc.drew R RT encR_len
  have hbg : wc.heap.size ≠ g := by
    have h1 := HRr.out.lt
    have h2 := HZ5.out.1.size
    omega
  have HRp := Lib.hid (replace_calls _ g c wc.heap.size 1 xs [R] (HRr.out.below hal) hRl (by simp) (by simp; omega) hbg f T hfT hT)
  have HAl := Lib.hid hal
  have hwp := HPp.out.head.lt
  clear hal hRl hbg
  unfold encR at HRp HAl
  rw [show xs.take f ++ [R] ++ xs.drop T = giveX xs k by rw [HX.out]; simp] at HRp
  have c1b := HQ.out _ (HZ5.out.1.alloc HZ5.out.1.size (.cells #[.int .i64 R.p, .int .i64 R.n, .bool R.t] RT))
  have c1c := HQ.out _ HAl.out
  go_wp2_with fail
  go_region_with ((go_at_call 87; (refine (Calls.mono HRp.out ?_)); rintro e w6 ⟨g', c', rfl, hR6, hg6, hK6⟩; have HS6 := Lib.hid (spw_of HPp.out HOk.out HAl.out hR6 hg6 hK6); have hh6 : Blk w6 p #[.int .i64 P, .slice (some ⟨g, 0, none⟩) xs.length c] ST := (HPp.out.head.below HAl.out).kept hK6 (by simpa using Ne.symm (HPp.out.own g rfl).2); have z1 := hh6.cell (o := 1) rfl; have z1f := hh6.free 1; clear hR6 hg6 hK6 hh6))
  all_goals
    go_wp2_with fail
    go_ret2
    exact ⟨rfl, HS6.out⟩
theorem give_calls (page : Int) : Calls Try.prog 56 #[.pointer (some ⟨p, 0, none⟩), .int .i64 page] w fun e w' => e = .returned (.tuple #[.int .i64 (giveN page xs), .int .i64 (giveE page xs)]) ∧ Spw w p F P (giveS page xs) w' := by
  by_cases hp : page < 0 ∨ (P : Int) ≤ page
  · exact give_out w p F P xs h page hp
  · obtain ⟨i, rfl⟩ := Int.eq_ofNat_of_zero_le (show 0 ≤ page by omega)
    obtain ⟨k, hk, h1, h2⟩ := has_page xs h.ok.ch i (Nat.zero_le _) (by omega)
    by_cases hc : (xs.getD k r0).t = true ∧ (xs.getD k r0).p = i
    · obtain ⟨e1, e2, e3⟩ := giveS_some (show findT xs (i : Int) = some k by rw [findT_at h.ok hk h1 h2, if_pos hc])
      rw [e1, e2, e3, ← hc.2]
      exact give_yes w p F P xs h k hk hc.1
    · exact give_not w p F P xs h i k hk h1 h2 hc
end
end Go.Proofs.Ytldlogmjkbhomaa.Spa
