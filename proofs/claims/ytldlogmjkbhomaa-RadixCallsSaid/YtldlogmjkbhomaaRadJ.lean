/- The walk of RadixCalls. -/
import Derived.Test.YtldlogmjkbhomaaRadI
namespace Go.Proofs.Ytldlogmjkbhomaa.Rad
open Go.RowKit Go.Proofs.Ytldlogmjkbhomaa.Aid Go.Proofs.Ytldlogmjkbhomaa.Pack
theorem held7 {W w3 : World} {q : Nat} {v0 v1 v2 v3 v4 v5 v6 : Value} (h : W.cell? ⟨q, 0, none⟩ = some v0 ∧ W.cell? ⟨q, 1, none⟩ = some v1 ∧ W.cell? ⟨q, 2, none⟩ = some v2 ∧ W.cell? ⟨q, 3, none⟩ = some v3 ∧ W.cell? ⟨q, 4, none⟩ = some v4 ∧ W.cell? ⟨q, 5, none⟩ = some v5 ∧ W.cell? ⟨q, 6, none⟩ = some v6) {F : List Nat} (hb : Kept F W w3) (hq : q ∉ F) :
    w3.cell? ⟨q, 0, none⟩ = some v0 ∧ w3.cell? ⟨q, 1, none⟩ = some v1 ∧ w3.cell? ⟨q, 2, none⟩ = some v2 ∧ w3.cell? ⟨q, 3, none⟩ = some v3 ∧ w3.cell? ⟨q, 4, none⟩ = some v4 ∧ w3.cell? ⟨q, 5, none⟩ = some v5 ∧ w3.cell? ⟨q, 6, none⟩ = some v6 := by
  have hz : q < W.heap.size := cell_lt h.1
  have e : ∀ o, w3.cell? ⟨q, o, none⟩ = W.cell? ⟨q, o, none⟩ := fun o => by
    unfold World.cell?
    rw [hb.block q hz hq]
  rw [e, e, e, e, e, e, e]
  exact h
theorem held8 {W w3 : World} {q r : Nat} {v0 v1 v2 v3 v4 v5 v6 v7 : Value} (h : W.cell? ⟨q, 0, none⟩ = some v0 ∧ W.cell? ⟨q, 1, none⟩ = some v1 ∧ W.cell? ⟨q, 2, none⟩ = some v2 ∧ W.cell? ⟨q, 3, none⟩ = some v3 ∧ W.cell? ⟨q, 4, none⟩ = some v4 ∧ W.cell? ⟨q, 5, none⟩ = some v5 ∧ W.cell? ⟨q, 6, none⟩ = some v6 ∧ W.cell? ⟨r, 1, none⟩ = some v7) {F : List Nat} (hb : Kept F W w3) (hq : q ∉ F) (hr : r ∉ F) :
    w3.cell? ⟨q, 0, none⟩ = some v0 ∧ w3.cell? ⟨q, 1, none⟩ = some v1 ∧ w3.cell? ⟨q, 2, none⟩ = some v2 ∧ w3.cell? ⟨q, 3, none⟩ = some v3 ∧ w3.cell? ⟨q, 4, none⟩ = some v4 ∧ w3.cell? ⟨q, 5, none⟩ = some v5 ∧ w3.cell? ⟨q, 6, none⟩ = some v6 ∧ w3.cell? ⟨r, 1, none⟩ = some v7 := by
  have hz : q < W.heap.size := cell_lt h.1
  have hz2 : r < W.heap.size := cell_lt h.2.2.2.2.2.2.2
  have e : ∀ o, w3.cell? ⟨q, o, none⟩ = W.cell? ⟨q, o, none⟩ := fun o => by
    unfold World.cell?
    rw [hb.block q hz hq]
  have e2 : ∀ o, w3.cell? ⟨r, o, none⟩ = W.cell? ⟨r, o, none⟩ := fun o => by
    unfold World.cell?
    rw [hb.block r hz2 hr]
  rw [e, e, e, e, e, e, e, e2]
  exact h
/-- What holds between two rounds. -/
structure Two (w0 w : World) (p rp rg : Nat) (F : List Nat) (pages : Nat) (s : RS) (bs : List Nat) : Prop where
  h : Hold w0 w p F pages s (rp :: rg :: bs)
  r : RefAt w rp rg pages s
  g : w0.heap.size ≤ rp ∧ w0.heap.size ≤ rg
theorem Two.on {w0 w w' : World} {p rp rg pages : Nat} {F : List Nat} {s : RS} {bs : List Nat} (h : Two w0 w p rp rg F pages s bs) (k : Below w.heap.size w w') : Two w0 w' p rp rg F pages s bs := ⟨h.h.on k, h.r.below k, h.g⟩
theorem hasE_zero (a b : Int) : hasE 0 a b = false := rfl
theorem count_next {n : Nat} {s : RS} (h : OkR n s) {i : Int} (h0 : -1 ≤ i) (h1 : i ≤ n) (a b : Int) : (countW s.ws (i + 1).toNat a b : Int) = (countW s.ws i.toNat a b : Nat) + ((hasE (wordAt n s i) a b).toNat : Nat) := by
  by_cases hn : i < 0
  · obtain rfl : i = -1 := by omega
    have : wordAt n s (-1) = 0 := by unfold wordAt; rw [if_neg (by omega)]
    rw [this, hasE_zero]
    rfl
  · obtain ⟨k, rfl⟩ := Int.eq_ofNat_of_zero_le (show 0 ≤ i by omega)
    have e1 : ((k : Int) + 1).toNat = k + 1 := by omega
    rw [e1, Int.toNat_natCast, countW_succ]
    have : wordAt n s (k : Int) = s.ws k := by
      by_cases hk : k < n
      · exact wordAt_in hk
      · unfold wordAt
        rw [if_neg (by omega), h.out k (by omega)]
    rw [this]
    push_cast
    rfl
theorem count_last {n : Nat} {s : RS} (h : OkR n s) (a b : Int) : countW s.ws (n + 1) a b = countW s.ws n a b := by
  rw [countW_succ, h.out n (Nat.le_refl _), hasE_zero]
  rfl
theorem held44 {W w3 : World} {q r : Nat} {v0 v1 v2 v3 u0 u1 u2 u3 : Value} (h : W.cell? ⟨q, 0, none⟩ = some v0 ∧ W.cell? ⟨q, 1, none⟩ = some v1 ∧ W.cell? ⟨q, 2, none⟩ = some v2 ∧ W.cell? ⟨q, 3, none⟩ = some v3 ∧ W.cell? ⟨r, 0, none⟩ = some u0 ∧ W.cell? ⟨r, 1, none⟩ = some u1 ∧ W.cell? ⟨r, 2, none⟩ = some u2 ∧ W.cell? ⟨r, 3, none⟩ = some u3) (hb : Below W.heap.size W w3) :
    w3.cell? ⟨q, 0, none⟩ = some v0 ∧ w3.cell? ⟨q, 1, none⟩ = some v1 ∧ w3.cell? ⟨q, 2, none⟩ = some v2 ∧ w3.cell? ⟨q, 3, none⟩ = some v3 ∧ w3.cell? ⟨r, 0, none⟩ = some u0 ∧ w3.cell? ⟨r, 1, none⟩ = some u1 ∧ w3.cell? ⟨r, 2, none⟩ = some u2 ∧ w3.cell? ⟨r, 3, none⟩ = some u3 := by
  have hz : q < W.heap.size := cell_lt h.1
  have hz2 : r < W.heap.size := cell_lt h.2.2.2.2.1
  have e : ∀ o, w3.cell? ⟨q, o, none⟩ = W.cell? ⟨q, o, none⟩ := fun o => hb.cell (p := ⟨q, o, none⟩) hz
  have e2 : ∀ o, w3.cell? ⟨r, o, none⟩ = W.cell? ⟨r, o, none⟩ := fun o => hb.cell (p := ⟨r, o, none⟩) hz2
  rw [e, e, e, e, e2, e2, e2, e2]
  exact h
set_option maxHeartbeats 8000000 in
set_option maxRecDepth 4000 in
theorem calls_walk (w : World) (pages a b : Int) (xs : List Cl) (A : Option Addr) (c : Nat) (hx : Cls w A xs) (_hl : xs.length ≤ maxLen) :
    Calls Try.prog 3 #[.int .i64 pages, .slice A xs.length c, .int .i64 a, .int .i64 b] w fun e w' => e = .returned (.bool true) ∧ Below w.heap.size w w' := by
  have HA := Lib.hid (alive_calls w)
  have HX := Lib.hid hx
  clear hx
  by_cases hp3 : 300 < pages
  · clear _hl
    go_enter Try.func3, Try.ntmps3
    go_wp2_with fail
    refine HA.out.mono ?_
    rintro e w1 ⟨rfl, hb1⟩
    go_wp2_with fail
    go_ret
    exact ⟨rfl, hb1⟩
  by_cases hl60 : (60 : Int) < xs.length
  · go_enter Try.func3, Try.ntmps3
    go_wp2_with fail
    refine HA.out.mono ?_
    rintro e w1 ⟨rfl, hb1⟩
    go_wp2_with fail
    go_ret
    exact ⟨rfl, hb1⟩
  by_cases hp0 : pages < 0
  · go_enter Try.func3, Try.ntmps3
    go_wp2_with fail
    refine HA.out.mono ?_
    rintro e w1 ⟨rfl, hb1⟩
    go_wp2_with fail
    refine (new_no w1 pages (.inl hp0)).mono ?_
    rintro e w2 ⟨rfl, rfl⟩
    go_wp2_with fail
    refine (rnew_no w1 pages (.inl hp0)).mono ?_
    rintro e w2 ⟨rfl, rfl⟩
    go_wp2_with fail
    go_ret
    exact ⟨rfl, hb1⟩
  obtain ⟨n, rfl⟩ := Int.eq_ofNat_of_zero_le (show 0 ≤ pages by omega)
  have hn : n ≤ 300 := by omega
  go_enter Try.func3, Try.ntmps3
  go_wp2_with fail
  refine HA.out.mono ?_
  rintro e w1 ⟨rfl, hb1⟩
  have HB1 := Lib.hid hb1
  clear hb1
  go_wp2_with fail
  refine (new_yes w1 n (by omega)).mono ?_
  rintro e w2 ⟨p, F, rfl, hQ, hF, hb⟩
  have hz1 := HB1.out.size
  have H2 := Lib.hid (show Hold w w2 p F n rs0 [] from ⟨hQ, fun x hx => Nat.le_trans hz1 (hF x (by simp [hx])), bstep HB1.out hb, by simp⟩)
  clear hQ hF hb hz1 HA HB1
  go_wp2_with fail
  refine (rnew_yes w2 n (by omega)).mono ?_
  rintro e w3 ⟨rp, rg, rfl, hR, hrp, hrg, hb⟩
  have H3 := Lib.hid (show Two w w3 p rp rg F n rs0 [] from ⟨(H2.out.on hb).also (cs := [rp, rg]) (fun b hb' => by
    have hflt := H2.out.q.flt
    rcases List.mem_cons.1 hb' with rfl | hb'
    · exact ⟨fun h => by have := hflt _ h; omega, hR.head.lt⟩
    · rw [List.mem_singleton] at hb'
      subst hb'
      exact ⟨fun h => by have := hflt _ h; omega, hR.row.lt⟩), hR, Nat.le_trans H2.out.below.size hrp, Nat.le_trans H2.out.below.size hrg⟩)
  clear hR hrp hrg hb H2
  go_wp2_with fail
  go_loopw [13] (fun i wr => ∃ (k : Nat) (s : RS) (F : List Nat), i = .int .i64 k ∧ k ≤ xs.length ∧ Two w wr p rp rg F n s []) (fun i _ => xs.length - (intOf i).toNat)
  case atStart => exact ⟨0, rs0, F, rfl, by omega, H3.out⟩
  case round =>
    obtain ⟨k, s, F, rfl, hk, hT⟩ := hrel
    have HT := Lib.hid hT
    clear hT H3
    by_cases hlt : k < xs.length
    · obtain ⟨b0, o0, rfl, hC, hok⟩ := HX.out k hlt
      generalize xs.getD k cl0 = c0 at hC hok
      have HOk := Lib.hid hok
      have hC2 := hC.below HT.out.h.below
      have k0 := hC2.c0
      have k1 := hC2.c1
      have k2 := hC2.c2
      have k3 := hC2.c3
      have k4 := hC2.c4
      have k5 := hC2.c5
      have k6 := hC2.c6
      clear hC hC2 hok
      obtain ⟨clr, page, m, sp, ve, cl, sa⟩ := c0
      simp only at k0 k1 k2 k3 k4 k5 k6
      have hq := Blk.new wr #[.bool clr, .int .i64 page, .int .i64 m, .int .i64 sp, .int .i64 ve, .int .i64 cl, .int .i64 sa] CT
      have hbq := balloc (Below.refl wr.heap.size wr) (.cells #[.bool clr, .int .i64 page, .int .i64 m, .int .i64 sp, .int .i64 ve, .int .i64 cl, .int .i64 sa] CT)
      have HTq := Lib.hid (HT.out.on hbq)
      have hqF : wr.heap.size ∉ F := fun h => by have := HT.out.h.q.flt _ h; omega
      have hqrp : wr.heap.size ≠ rp := by have := HT.out.r.head.lt; omega
      have hqrg : wr.heap.size ≠ rg := by have := HT.out.r.row.lt; omega
      have hgq : w.heap.size ≤ wr.heap.size := HT.out.h.below.size
      clear hbq HT
      go_upto_region 15 with fail
      clear k0 k1 k2 k3 k4 k5 k6
      generalize wr.alloc (.cells #[.bool clr, .int .i64 page, .int .i64 m, .int .i64 sp, .int .i64 ve, .int .i64 cl, .int .i64 sa] CT) = w4 at hq HTq ⊢
      generalize wr.heap.size = q at hq hqF hqrp hqrg hgq ⊢
      have k0 : w4.cell? ⟨q, 0, none⟩ = some (.bool clr) := hq.cell rfl
      have k1 : w4.cell? ⟨q, 1, none⟩ = some (.int .i64 page) := hq.cell rfl
      have k2 : w4.cell? ⟨q, 2, none⟩ = some (.int .i64 m) := hq.cell rfl
      have k3 : w4.cell? ⟨q, 3, none⟩ = some (.int .i64 sp) := hq.cell rfl
      have k4 : w4.cell? ⟨q, 4, none⟩ = some (.int .i64 ve) := hq.cell rfl
      have k5 : w4.cell? ⟨q, 5, none⟩ = some (.int .i64 cl) := hq.cell rfl
      have k6 : w4.cell? ⟨q, 6, none⟩ = some (.int .i64 sa) := hq.cell rfl
      have HBq := Lib.hid hq
      have HNe := Lib.hid (And.intro hqF (And.intro hqrp (And.intro hqrg hgq)))
      clear hq hqF hqrp hqrg hgq
      go_cut [15] (fun v wc => v = .int .i64 0 ∧ w4 = wc)
      case first =>
        go_wp2_with fail
        go_meet
        exact ⟨rfl, rfl⟩
      case rest =>
      obtain ⟨rfl, rfl⟩ := hcut
      rename_i hkk
      refine hkk _ _ ?_
      clear hkk
      apply wp_seq_k
      intro _ _
      go_cut [15] (fun v wc => v = .int .i64 (doC n s ⟨clr, page, m, sp, ve, cl, sa⟩) ∧ RefAt wc rp rg n (doS n s ⟨clr, page, m, sp, ve, cl, sa⟩) ∧ Kept [rp, rg] w4 wc)
      case first =>
        cases clr with
        | true =>
          have HC := Lib.hid (rclear_calls w4 rp rg n s page m HTq.out.r)
          go_wp2_with fail
          refine HC.out.mono ?_
          rintro e w5 ⟨rfl, hr5, hk5⟩
          have HR5 := Lib.hid (And.intro hr5 hk5)
          clear hr5 hk5
          go_wp2_with fail
          go_meet
          exact ⟨rfl, HR5.out⟩
        | false =>
          have HK := Lib.hid (And.intro k0 (And.intro k1 (And.intro k2 (And.intro k3 (And.intro k4 (And.intro k5 k6))))))
          have hqn : q ∉ [rp, rg] := by simp; exact ⟨HNe.out.2.1, HNe.out.2.2.1⟩
          go_upto_region 18 with fail
          go_region_held3 (fun w' => w'.cell? ⟨q, 0, none⟩ = some (.bool false) ∧ w'.cell? ⟨q, 1, none⟩ = some (.int .i64 page) ∧ w'.cell? ⟨q, 2, none⟩ = some (.int .i64 m) ∧ w'.cell? ⟨q, 3, none⟩ = some (.int .i64 sp) ∧ w'.cell? ⟨q, 4, none⟩ = some (.int .i64 ve) ∧ w'.cell? ⟨q, 5, none⟩ = some (.int .i64 cl) ∧ w'.cell? ⟨q, 6, none⟩ = some (.int .i64 sa))
            (first | go_keep | exact HK.out)
            ((first
              | (go_at_call 17; (refine (of_calls _ ⟨sp, ve, cl, sa⟩).mono ?_); rintro r w5 ⟨rfl, hb5⟩; have HK5 := Lib.hid (held7 (by assumption) (Kept.of_below hb5 [rp, rg]) hqn); clear HK; have HK := HK5; have HR5 := Lib.hid (HTq.out.r.below (undrew hb5)); have HB5 := Lib.hid (undrew hb5); clear hb5)
              | (go_at_call 16; (refine (rset_calls _ rp rg n s page m ⟨sp, ve, cl, sa⟩ HR5.out).mono ?_); rintro r w6 ⟨rfl, hr6, hk6⟩; have HK6 := Lib.hid (held7 (by assumption) hk6 hqn); clear HK; have HK := HK6; have HR6 := Lib.hid (And.intro hr6 ((Kept.of_below HB5.out [rp, rg]).trans hk6)); clear hr6 hk6)))
          go_wp2_with fail
          go_meet
          exact ⟨rfl, HR6.out⟩
      case rest =>
      obtain ⟨rfl, hR5, hK5⟩ := hcut
      have hqn : q ∉ [rp, rg] := by simp; exact ⟨HNe.out.2.1, HNe.out.2.2.1⟩
      have HK5 := Lib.hid (held7 ⟨k0, k1, k2, k3, k4, k5, k6⟩ hK5 hqn)
      have HH5 := Lib.hid (HTq.out.h.keeps hK5 (by simp) (by simp; exact HTq.out.g))
      have HR5 := Lib.hid hR5
      have HG := Lib.hid HTq.out.g
      have r1 := hR5.c1
      have hDo := do_calls wc.drew p F n s ⟨clr, page, m, sp, ve, cl, sa⟩ HOk.out HH5.out.q.drew
      generalize doC n s ⟨clr, page, m, sp, ve, cl, sa⟩ = dc at hDo ⊢
      generalize doS n s ⟨clr, page, m, sp, ve, cl, sa⟩ = s' at hDo HR5 r1
      unfold encC at hDo
      simp only at hDo
      have HDo := Lib.hid hDo
      obtain ⟨k0, k1, k2, k3, k4, k5, k6⟩ := HK5.out
      have HK := Lib.hid (show wc.cell? ⟨q, 0, none⟩ = some (.bool clr) ∧ wc.cell? ⟨q, 1, none⟩ = some (.int .i64 page) ∧ wc.cell? ⟨q, 2, none⟩ = some (.int .i64 m) ∧ wc.cell? ⟨q, 3, none⟩ = some (.int .i64 sp) ∧ wc.cell? ⟨q, 4, none⟩ = some (.int .i64 ve) ∧ wc.cell? ⟨q, 5, none⟩ = some (.int .i64 cl) ∧ wc.cell? ⟨q, 6, none⟩ = some (.int .i64 sa) ∧ wc.cell? ⟨rp, 1, none⟩ = some (.int .u64 s'.st) from ⟨k0, k1, k2, k3, k4, k5, k6, r1⟩)
      have HNr := Lib.hid (show rp ∉ F from (HH5.out.out rp (by simp)).1)
      clear hR5 hK5 hDo HTq HBq HK5 hqn
      go_upto_region 19 with fail
      go_region_held3 (fun w' => w'.cell? ⟨q, 0, none⟩ = some (.bool clr) ∧ w'.cell? ⟨q, 1, none⟩ = some (.int .i64 page) ∧ w'.cell? ⟨q, 2, none⟩ = some (.int .i64 m) ∧ w'.cell? ⟨q, 3, none⟩ = some (.int .i64 sp) ∧ w'.cell? ⟨q, 4, none⟩ = some (.int .i64 ve) ∧ w'.cell? ⟨q, 5, none⟩ = some (.int .i64 cl) ∧ w'.cell? ⟨q, 6, none⟩ = some (.int .i64 sa) ∧ w'.cell? ⟨rp, 1, none⟩ = some (.int .u64 s'.st))
        (first | go_keep | exact HK.out)
        ((first
          | (go_at_call 18; (with_reducible refine (Calls.mono HDo.out ?_)); rintro r w6 ⟨rfl, hW⟩; have HW := Lib.hid hW; obtain ⟨F6, hH6, hk6⟩ := (HH5.out.on (Below.refl _ _).drew).wrote hW; have HK6 := Lib.hid (held8 (by assumption) hk6 HNe.out.1 HNr.out); clear HK; have HK := HK6; have HT6 := Lib.hid (show Two w w6 p rp rg F6 n s' [] from ⟨hH6, (HR5.out.below (Below.refl _ _).drew).kept hk6 HNr.out (HH5.out.out rg (by simp)).1, HG.out⟩); clear hW hH6 hk6)
          | (go_at_call 19; (refine (stamp_calls _ p F6 n s' HT6.out.h.q).mono ?_); rintro r w7 ⟨rfl, rfl⟩)
          | (go_at_call 20; (refine (leaves_calls _ p F6 n s' HT6.out.h.q).mono ?_); rintro r w7 ⟨rfl, rfl⟩)
          | (go_at_call 21; (refine (rleaves_calls _ rp rg n s' HT6.out.r).mono ?_); rintro r w7 ⟨rfl, rfl⟩)))
      all_goals
        go_wp2_with fail
        go_roundw
        case rel => exact ⟨k + 1, s', F6, by go_num, by omega, HT6.out⟩
        case measure => simp [intOf]; omega
    · obtain rfl : k = xs.length := by omega
      clear _hl hk hlt hp3 hp0 hl60
      go_wp2_with fail
      go_loopw [16, 17] (fun v u wr => ∃ i : Int, u = .int .i64 i ∧ -1 ≤ i ∧ i ≤ n + 1 ∧ v = .int .i64 (countW s.ws i.toNat a b : Nat) ∧ Two w wr p rp rg F n s []) (fun _ u _ => (n + 1 - intOf u).toNat)
      case atStart => exact ⟨-1, rfl, by omega, by omega, rfl, HT.out⟩
      case round =>
        obtain ⟨i, rfl, hi0, hi1, rfl, hT⟩ := hrel
        have HT1 := Lib.hid hT
        clear HT hT
        by_cases hin : i ≤ (n : Int)
        · have HG1 := Lib.hid (get_calls _ p F n s i HT1.out.h.q)
          have HCn := Lib.hid (count_next HT1.out.h.q.ok hi0 hin a b)
          have hcl : countW s.ws i.toNat a b ≤ 302 := by have := countW_le s.ws i.toNat a b; omega
          obtain ⟨v, ok, hv, hok, hvv⟩ := getE_val (wordAt n s i)
          rw [hv] at HG1
          have HE := Lib.hid (show hasE (wordAt n s i) a b = (ok && (v.ver == a && v.sta == b)) from by
            unfold hasE
            rw [← hok]
            cases ok with
            | true => rw [hvv rfl]; simp
            | false => simp)
          have HV := Lib.hid hv
          clear hv hok hvv
          obtain ⟨sp, ve, cl, sa⟩ := v
          simp only at HE
          have HOf := Lib.hid (fun W => of_calls W ⟨sp, ve, cl, sa⟩)
          unfold encE at HG1 HV HOf
          simp only at HG1 HV HOf
          go_wp2_with fail
          refine HG1.out.mono ?_
          rintro e w5 ⟨rfl, hb5⟩
          have hq := Blk.new w5 #[.int .i64 sp, .int .i64 ve, .int .i64 cl, .int .i64 sa] ET
          have hbq := balloc hb5 (.cells #[.int .i64 sp, .int .i64 ve, .int .i64 cl, .int .i64 sa] ET)
          have HT6 := Lib.hid (HT1.out.on hbq)
          clear hb5 hbq HG1 HT1
          go_upto_region 26 with fail
          generalize w5.alloc (.cells #[.int .i64 sp, .int .i64 ve, .int .i64 cl, .int .i64 sa] ET) = w6 at hq HT6 ⊢
          generalize w5.heap.size = q1 at hq ⊢
          have HQ1 := Lib.hid hq
          have HG2 := Lib.hid (rget_calls _ rp rg n s i HT6.out.r)
          rw [HV.out] at HG2
          clear hq
          go_wp2_with fail
          refine HG2.out.mono ?_
          rintro e w7 ⟨rfl, hb7⟩
          have hq2 := Blk.new w7 #[.int .i64 sp, .int .i64 ve, .int .i64 cl, .int .i64 sa] 37
          have hbq := balloc hb7 (.cells #[.int .i64 sp, .int .i64 ve, .int .i64 cl, .int .i64 sa] 37)
          have HT8 := Lib.hid (HT6.out.on hbq)
          have hq1 := HQ1.out.below hbq
          clear hb7 hbq HG2 HT6 HQ1
          go_upto_region 27 with fail
          generalize w7.alloc (.cells #[.int .i64 sp, .int .i64 ve, .int .i64 cl, .int .i64 sa] 37) = w8 at hq1 hq2 HT8 ⊢
          generalize w7.heap.size = q2 at hq2 ⊢
          have k0 : w8.cell? ⟨q1, 0, none⟩ = some (.int .i64 sp) := hq1.cell rfl
          have k1 : w8.cell? ⟨q1, 1, none⟩ = some (.int .i64 ve) := hq1.cell rfl
          have k2 : w8.cell? ⟨q1, 2, none⟩ = some (.int .i64 cl) := hq1.cell rfl
          have k3 : w8.cell? ⟨q1, 3, none⟩ = some (.int .i64 sa) := hq1.cell rfl
          have j0 : w8.cell? ⟨q2, 0, none⟩ = some (.int .i64 sp) := hq2.cell rfl
          have j1 : w8.cell? ⟨q2, 1, none⟩ = some (.int .i64 ve) := hq2.cell rfl
          have j2 : w8.cell? ⟨q2, 2, none⟩ = some (.int .i64 cl) := hq2.cell rfl
          have j3 : w8.cell? ⟨q2, 3, none⟩ = some (.int .i64 sa) := hq2.cell rfl
          have HK := Lib.hid (And.intro k0 (And.intro k1 (And.intro k2 (And.intro k3 (And.intro j0 (And.intro j1 (And.intro j2 j3)))))))
          clear hq1 hq2
          go_cut [22] (fun v wc => v = .int .u64 0 ∧ w8 = wc)
          case first =>
            go_wp2_with fail
            go_meet
            exact ⟨rfl, rfl⟩
          case rest =>
          obtain ⟨rfl, rfl⟩ := hcut
          rename_i hkk
          refine hkk _ _ ?_
          clear hkk
          apply wp_seq_k
          intro _ _
          go_cut [22] (fun v wc => v = .int .u64 (wordAt n s i) ∧ w8 = wc)
          case first =>
            by_cases hin2 : 0 ≤ i ∧ i < (n : Int)
            · obtain ⟨k, rfl⟩ := Int.eq_ofNat_of_zero_le hin2.1
              have hk1 : (k : Int) < (n : Int) := hin2.2
              have hk0 : (0 : Int) ≤ (k : Int) := hin2.1
              have c0 := HT8.out.r.c0
              have ck := HT8.out.r.ck (i := k) (by omega)
              have HWk := Lib.hid (wordAt_in (s := s) (show k < n by omega))
              clear hin2 hi0 hi1 hin hcl
              go_wp2_with fail
              go_meet
              exact ⟨congrArg (Value.int .u64) HWk.out.symm, rfl⟩
            · have HWk := Lib.hid (show wordAt n s i = 0 by unfold wordAt; rw [if_neg hin2])
              by_cases h3 : 0 ≤ i
              · have h4 : (n : Int) ≤ i := by omega
                clear hin2
                go_wp2_with fail
                go_meet
                exact ⟨congrArg (Value.int .u64) HWk.out.symm, rfl⟩
              · clear hin2
                go_wp2_with fail
                go_meet
                exact ⟨congrArg (Value.int .u64) HWk.out.symm, rfl⟩
          case rest =>
          obtain ⟨rfl, rfl⟩ := hcut
          go_upto_region 30 with fail
          go_region_held3 (fun w' => w'.cell? ⟨q1, 0, none⟩ = some (.int .i64 sp) ∧ w'.cell? ⟨q1, 1, none⟩ = some (.int .i64 ve) ∧ w'.cell? ⟨q1, 2, none⟩ = some (.int .i64 cl) ∧ w'.cell? ⟨q1, 3, none⟩ = some (.int .i64 sa) ∧ w'.cell? ⟨q2, 0, none⟩ = some (.int .i64 sp) ∧ w'.cell? ⟨q2, 1, none⟩ = some (.int .i64 ve) ∧ w'.cell? ⟨q2, 2, none⟩ = some (.int .i64 cl) ∧ w'.cell? ⟨q2, 3, none⟩ = some (.int .i64 sa))
            (first | go_keep | exact HK.out)
            ((first
              | (go_at_call 17; (refine (Calls.mono (HOf.out _) ?_)); rintro r w9 ⟨rfl, hb9⟩; have HK9 := Lib.hid (held44 (by assumption) hb9); clear HK; have HK := HK9; have HT9 := Lib.hid (HT8.out.on (undrew hb9)); clear hb9)
              | (go_at_call 24; (refine (rword_calls _ p F n s i HT9.out.h.q).mono ?_); rintro r w10 ⟨rfl, rfl⟩)))
          all_goals
            obtain ⟨k0, k1, k2, k3, j0, j1, j2, j3⟩ := HK.out
            have HM := Lib.hid (show ∀ t : Bool, hasE (wordAt n s i) a b = t → (countW s.ws (i + 1).toNat a b : Int) = countW s.ws i.toNat a b + (t.toNat : Nat) from fun t e => by rw [HCn.out, e])
            clear HK HOf HCn
            cases ok with
            | false =>
              go_wp2_with fail
              go_roundw
              case rel => exact ⟨i + 1, by go_num, by omega, by omega, congrArg (Value.int .i64) (by rw [HM.out false HE.out]; simp), HT9.out⟩
              case measure => simp [intOf]; omega
            | true =>
              by_cases h1 : ve = a
              · subst h1
                by_cases h2 : sa = b
                · subst h2
                  go_wp2_with fail
                  go_roundw
                  case rel => exact ⟨i + 1, by go_num, by omega, by omega, congrArg (Value.int .i64) (by rw [HM.out true (by rw [HE.out]; simp)]; rfl), HT9.out⟩
                  case measure => simp [intOf]; omega
                · have h2' : (sa == b) = false := beq_eq_false_iff_ne.2 h2
                  clear h2
                  go_wp2_with fail
                  go_roundw
                  case rel => exact ⟨i + 1, by go_num, by omega, by omega, congrArg (Value.int .i64) (by rw [HM.out false (by rw [HE.out, h2']; simp)]; simp), HT9.out⟩
                  case measure => simp [intOf]; omega
              · have h1' : (ve == a) = false := beq_eq_false_iff_ne.2 h1
                clear h1
                go_wp2_with fail
                go_roundw
                case rel => exact ⟨i + 1, by go_num, by omega, by omega, congrArg (Value.int .i64) (by rw [HM.out false (by rw [HE.out, h1']; simp)]; simp), HT9.out⟩
                case measure => simp [intOf]; omega
        · obtain rfl : i = (n : Int) + 1 := by omega
          have HCt := Lib.hid (count_calls wr p F n s a b HT1.out.h.q)
          have hcl := count_last HT1.out.h.q.ok a b
          have e1 : ((n : Int) + 1).toNat = n + 1 := by omega
          rw [e1, hcl]
          clear hcl e1
          go_wp2_with fail
          refine HCt.out.mono ?_
          rintro e w5 ⟨rfl, hb5⟩
          have HB5 := Lib.hid (HT1.out.on hb5).h.below
          clear hb5
          go_wp2_with fail
          go_ret
          exact ⟨rfl, HB5.out⟩
end Go.Proofs.Ytldlogmjkbhomaa.Rad
