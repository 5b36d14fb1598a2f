/- The contract of the law's own Do. -/
import Derived.Test.YtchnhmcedmicgaaRemO
set_option linter.unusedSimpArgs false
namespace Go.Proofs.Ytchnhmcedmicgaa.Rem
open Go.RowKit Go.Proofs.Ytchnhmcedmicgaa.Aid
/-- The program's queues and the reference's, side by side. -/
structure BothQ (w : World) (p : Nat) (F : List Nat) (n m : Nat) (s : QRun) (rp : Nat) (G : List Nat) (log : List RRow) : Prop where
  q : QAt w p F n m s
  r : RefQ w rp G n log
  dis : ∀ x ∈ G, x ∉ F
theorem BothQ.below {w w' : World} {p : Nat} {F : List Nat} {n m : Nat} {s : QRun} {rp : Nat} {G : List Nat} {log : List RRow} (h : BothQ w p F n m s rp G log) (k : Below w.heap.size w w') : BothQ w' p F n m s rp G log := ⟨h.q.below k, h.r.below k, h.dis⟩
theorem BothQ.wrote {w w' : World} {p : Nat} {F : List Nat} {n m m' : Nat} {s s' : QRun} {rp : Nat} {G : List Nat} {log : List RRow} (h : BothQ w p F n m s rp G log) (k : Wrote p F n m' s' w w') : ∃ F', BothQ w' p F' n m' s' rp G log ∧ Kept F w w' ∧ ∀ x ∈ F', x ∈ F ∨ w.heap.size ≤ x := by
  obtain ⟨F', h1, h2, h3⟩ := k
  refine ⟨F', ⟨h1, h.r.kept h2 h.dis, fun x hx hF => ?_⟩, h2, h3⟩
  rcases h3 x hF with e | e
  · exact h.dis x hx e
  · have := h.r.flt x hx; omega
theorem BothQ.rwrote {w w' : World} {p : Nat} {F : List Nat} {n m : Nat} {s : QRun} {rp : Nat} {G : List Nat} {log log' : List RRow} (h : BothQ w p F n m s rp G log) (k : RWrote rp G n log' w w') : ∃ G', BothQ w' p F n m s rp G' log' ∧ Kept G w w' ∧ ∀ x ∈ G', x ∈ G ∨ w.heap.size ≤ x := by
  obtain ⟨G', h1, h2, h3⟩ := k
  refine ⟨G', ⟨h.q.kept h2 fun x hx hG => h.dis x hG hx, h1, fun x hx hF => ?_⟩, h2, h3⟩
  rcases h3 x hx with e | e
  · exact h.dis x e hF
  · have := h.q.flt x hF; omega
/-- What a call of Do leaves. -/
def DoneQ (p : Nat) (F : List Nat) (n m : Nat) (s' : QRun) (rp : Nat) (G : List Nat) (log' : List RRow) (w w' : World) : Prop :=
  ∃ F' G' m', m' ≤ m + 1 ∧ BothQ w' p F' n m' s' rp G' log' ∧ Kept (F ++ G) w w' ∧ (∀ x ∈ F', x ∈ F ∨ w.heap.size ≤ x) ∧ ∀ x ∈ G', x ∈ G ∨ w.heap.size ≤ x
/-- One call of each. -/
theorem done_of {w w1 w2 : World} {p : Nat} {F : List Nat} {n m m' : Nat} {s s' : QRun} {rp : Nat} {G : List Nat} {log log' : List RRow} (h : BothQ w p F n m s rp G log) (k : Wrote p F n m' s' w w1) (hm : m' ≤ m + 1) (j : RWrote rp G n log' w1 w2) : DoneQ p F n m s' rp G log' w w2 := by
  obtain ⟨F', h1, k1, f1⟩ := h.wrote k
  obtain ⟨G', h2, k2, f2⟩ := h1.rwrote j
  refine ⟨F', G', m', hm, h2, (k1.mono fun x hx => List.mem_append_left _ hx).trans (k2.mono fun x hx => List.mem_append_right _ hx), f1, fun x hx => ?_⟩
  rcases f2 x hx with e | e
  · exact .inl e
  · exact .inr (Nat.le_trans k1.size e)
theorem DoneQ.before {w0 w w' : World} {p : Nat} {F : List Nat} {n m : Nat} {s' : QRun} {rp : Nat} {G : List Nat} {log' : List RRow} (hb : Below w0.heap.size w0 w) (h : DoneQ p F n m s' rp G log' w w') : DoneQ p F n m s' rp G log' w0 w' := by
  obtain ⟨F', G', m', hm, h1, h2, h3, h4⟩ := h
  have hz := hb.size
  exact ⟨F', G', m', hm, h1, (Kept.of_below hb _).trans h2, fun x hx => (h3 x hx).imp id fun e => by omega, fun x hx => (h4 x hx).imp id fun e => by omega⟩
theorem DoneQ.after {w w' w2 : World} {p : Nat} {F : List Nat} {n m : Nat} {s' : QRun} {rp : Nat} {G : List Nat} {log' : List RRow} (h : DoneQ p F n m s' rp G log' w w') (hb : Below w'.heap.size w' w2) : DoneQ p F n m s' rp G log' w w2 := by
  obtain ⟨F', G', m', hm, h1, h2, h3, h4⟩ := h
  exact ⟨F', G', m', hm, h1.below hb, h2.and_below hb, h3, h4⟩
def doS (n : Nat) (s : QRun) (c : Q4) : QRun := if c.a = 0 then sendS n s c.b c.c c.d else if c.a = 1 then takeS n s c.c else if c.a = 2 then remS s c.d else s
def doL (n : Nat) (log : List RRow) (c : Q4) : List RRow := if c.a = 0 then rsendL n log c.b c.c c.d else if c.a = 1 then rtakeL log c.c else if c.a = 2 then markL log c.d else log
def row0 : RRow := ⟨0, 0, 0, 0, false⟩
theorem itV_eq (o : Option It) : itV o = .agg #[.int .i64 (o.getD it0).frm, .int .i64 (o.getD it0).at_, .int .i64 (o.getD it0).seq] := by cases o <;> rfl
theorem rwV_eq (o : Option RRow) : rwV o = .agg #[.int .i64 (o.getD row0).to_, .int .i64 (o.getD row0).frm, .int .i64 (o.getD row0).at_, .int .i64 (o.getD row0).seq, .bool (o.getD row0).gone] := by cases o <;> rfl
def doB (n : Nat) (s : QRun) (log : List RRow) (c : Q4) : Bool :=
  if c.a = 0 then sendC n s c.b c.c c.d == rsendC n log c.b c.c c.d
  else if c.a = 1 then (takeV n s c.c).isSome == (rtakeV log c.c).isSome && sameB ((takeV n s c.c).getD it0) ((rtakeV log c.c).getD row0)
  else if c.a = 2 then remV s c.d == waitsL log c.d
  else true
set_option maxHeartbeats 8000000 in
theorem do_calls (w : World) (p : Nat) (F : List Nat) (n m : Nat) (s : QRun) (rp : Nat) (G : List Nat) (log : List RRow) (c : Q4) (hc : Q4ok c) (h : BothQ w p F n m s rp G log) (hm : m < 100000) (hlen : log.length < 100000) :
    Calls Try.prog 57 #[.pointer (some ⟨p, 0, none⟩), .pointer (some ⟨rp, 0, none⟩), .agg #[.int .i64 c.a, .int .i64 c.b, .int .i64 c.c, .int .i64 c.d]] w fun e w' => e = .returned (.bool (doB n s log c)) ∧ DoneQ p F n m (doS n s c) rp G (doL n log c) w w' := by
  have hb1 := (Below.refl w.heap.size w).alloc (Nat.le_refl _) (.cells #[.int .i64 c.a, .int .i64 c.b, .int .i64 c.c, .int .i64 c.d] 88)
  have hq := Blk.new w #[.int .i64 c.a, .int .i64 c.b, .int .i64 c.c, .int .i64 c.d] 88
  have HB1 := Lib.hid hb1
  have HH := Lib.hid (h.below hb1)
  have HqF := Lib.hid (show w.heap.size ∉ F ∧ w.heap.size ∉ G from ⟨fun hx => by have := h.q.flt _ hx; omega, fun hx => by have := h.r.flt _ hx; omega⟩)
  have HC := Lib.hid hc
  have HQq := Lib.hid hq
  unfold doB doS doL
  by_cases h0 : c.a = 0
  · rw [if_pos h0, if_pos h0, if_pos h0]
    have h00 : (c.a == 0) = true := by simpa using h0
    clear h hc hb1 hq h0
    go_enter Try.func57, Try.ntmps57
    go_upto_region 1 with fail
    generalize w.alloc (.cells #[.int .i64 c.a, .int .i64 c.b, .int .i64 c.c, .int .i64 c.d] 88) = w1 at HB1 HH HQq ⊢
    generalize w.heap.size = q at HqF HQq ⊢
    have y0 := HQq.out.cell (o := 0) rfl
    have y1 := HQq.out.cell (o := 1) rfl
    have y2 := HQq.out.cell (o := 2) rfl
    have y3 := HQq.out.cell (o := 3) rfl
    go_upto_region 3 with fail
    have HS := Lib.hid (send_calls w1.drew p F n m s c.b c.c c.d HH.out.q.drew hm)
    have HRS := Lib.hid (fun (W : World) (k : Wrote p F n (m + 1) (sendS n s c.b c.c c.d) w1.drew W) => rsend_calls W rp G n log c.b c.c c.d (by obtain ⟨F', h1, k1, _⟩ := (HH.out.below ((Below.refl _ _).drew)).wrote k; exact h1.r) hlen)
    have HY := Lib.hid (fun (W : World) (k : Wrote p F n (m + 1) (sendS n s c.b c.c c.d) w1.drew W) => (show W.cell? ⟨q, 1, none⟩ = some (.int .i64 c.b) ∧ W.cell? ⟨q, 2, none⟩ = some (.int .i64 c.c) ∧ W.cell? ⟨q, 3, none⟩ = some (.int .i64 c.d) from by
      obtain ⟨F', h1, k1, _⟩ := k
      have hh := HQq.out.kept (undrewK k1) HqF.out.1
      exact ⟨hh.cell (o := 1) rfl, hh.cell (o := 2) rfl, hh.cell (o := 3) rfl⟩))
    have HZ := Lib.hid (fun (W W2 : World) (k : Wrote p F n (m + 1) (sendS n s c.b c.c c.d) w1.drew W) (j : RWrote rp G n (rsendL n log c.b c.c c.d) W W2) => (show W2.cell? ⟨q, 1, none⟩ = some (.int .i64 c.b) ∧ W2.cell? ⟨q, 2, none⟩ = some (.int .i64 c.c) ∧ W2.cell? ⟨q, 3, none⟩ = some (.int .i64 c.d) from by
      obtain ⟨F', h1, k1, _⟩ := k
      obtain ⟨G', h2, k2, _⟩ := j
      have hh := (HQq.out.kept (undrewK k1) HqF.out.1).kept k2 HqF.out.2
      exact ⟨hh.cell (o := 1) rfl, hh.cell (o := 2) rfl, hh.cell (o := 3) rfl⟩))
    clear y0 h00
    go_region_held3 (fun w' => w'.cell? ⟨q, 1, none⟩ = some (.int .i64 c.b) ∧ w'.cell? ⟨q, 2, none⟩ = some (.int .i64 c.c) ∧ w'.cell? ⟨q, 3, none⟩ = some (.int .i64 c.d))
      (first | exact ⟨y1, y2, y3⟩ | exact HY.out _ hk4.out | exact HZ.out _ _ hk4.out hk5.out)
      ((first
        | (go_at_call 51; (with_reducible refine (Calls.mono HS.out ?_)); rintro e w4 ⟨rfl, hk⟩; have hk4 := Lib.hid hk; clear hk)
        | (go_at_call 84; (with_reducible refine (Calls.mono (HRS.out _ hk4.out) ?_)); rintro e w5 ⟨rfl, hk⟩; have hk5 := Lib.hid hk; clear hk)))
    go_wp2_with fail
    go_ret
    exact ⟨rfl, (done_of (HH.out.below ((Below.refl _ _).drew)) hk4.out (Nat.le_refl _) hk5.out).before HB1.out.drew⟩
  · rw [if_neg h0, if_neg h0, if_neg h0]
    have h00 : (c.a == 0) = false := by simpa using h0
    by_cases h1 : c.a = 1
    · rw [if_pos h1, if_pos h1, if_pos h1]
      have h11 : (c.a == 1) = true := by simpa using h1
      have HTk := Lib.hid (fun (W : World) (hq : QAt W p F n m s) => take_calls W p F n m s c.c hq)
      have HRT := Lib.hid (fun (W : World) (hr : RefQ W rp G n log) => rtake_calls W rp G n log c.c hr)
      rw [itV_eq] at HTk
      rw [rwV_eq] at HRT
      generalize hb1e : (takeV n s c.c).isSome = b1 at HTk ⊢
      generalize hb2e : (rtakeV log c.c).isSome = b2 at HRT ⊢
      generalize (takeV n s c.c).getD it0 = x at HTk ⊢
      generalize (rtakeV log c.c).getD row0 = y at HRT ⊢
      have HSm := Lib.hid (fun W => same_calls W x y)
      clear h hc hb1 hq h0 h1 hb1e hb2e
      go_enter Try.func57, Try.ntmps57
      go_upto_region 1 with fail
      generalize w.alloc (.cells #[.int .i64 c.a, .int .i64 c.b, .int .i64 c.c, .int .i64 c.d] 88) = w1 at HB1 HH HQq ⊢
      generalize w.heap.size = q at HqF HQq ⊢
      have y0 := HQq.out.cell (o := 0) rfl
      have y1 := HQq.out.cell (o := 1) rfl
      have y2 := HQq.out.cell (o := 2) rfl
      have y3 := HQq.out.cell (o := 3) rfl

      go_wp2_with fail
      refine (HTk.out w1 HH.out.q).mono ?_
      rintro e w4 ⟨rfl, hW⟩
      have hb5 := (Below.refl w4.heap.size w4).alloc (Nat.le_refl _) (.cells #[.int .i64 x.frm, .int .i64 x.at_, .int .i64 x.seq] IT)
      have hX := Blk.new w4 #[.int .i64 x.frm, .int .i64 x.at_, .int .i64 x.seq] IT
      obtain ⟨F', hH4, hk4, hF4⟩ := HH.out.wrote hW
      have hq4 := HQq.out.kept hk4 HqF.out.1
      have H5 := Lib.hid (hH4.below hb5)
      have HXx := Lib.hid hX
      have HK4 := Lib.hid (And.intro (hk4.and_below hb5) hF4)
      have y2 := (hq4.below hb5).cell (o := 2) rfl
      have HzG := Lib.hid (show w4.heap.size ∉ G from fun hx => by have := hH4.r.flt _ hx; omega)
      clear hW hb5 hX hH4 hk4 hF4 hq4 HTk
      go_upto_region 6 with fail
      generalize w4.alloc (.cells #[.int .i64 x.frm, .int .i64 x.at_, .int .i64 x.seq] IT) = w5 at H5 HXx HK4 y2 ⊢
      generalize w4.heap.size = xq at HXx HzG ⊢
      go_wp2_with fail
      refine (HRT.out w5 H5.out.r).mono ?_
      rintro e w6 ⟨rfl, hR⟩
      obtain ⟨G', hH6, hk6, hG6⟩ := H5.out.rwrote hR
      have hb7 := (Below.refl w6.heap.size w6).alloc (Nat.le_refl _) (.cells #[.int .i64 y.to_, .int .i64 y.frm, .int .i64 y.at_, .int .i64 y.seq, .bool y.gone] RT)
      have hY := Blk.new w6 #[.int .i64 y.to_, .int .i64 y.frm, .int .i64 y.at_, .int .i64 y.seq, .bool y.gone] RT
      have hx7 := (HXx.out.kept hk6 HzG.out).below hb7
      have HD := Lib.hid (show DoneQ p F n m (takeS n s c.c) rp G (rtakeL log c.c) w1 _ from ⟨F', G', m, Nat.le_succ m, hH6.below hb7, ((HK4.out.1.mono fun x hx => List.mem_append_left _ hx).trans (hk6.mono fun x hx => List.mem_append_right _ hx)).and_below hb7, fun x hx => HK4.out.2 x hx, fun x hx => (hG6 x hx).imp id fun e => Nat.le_trans HK4.out.1.size e⟩)
      have HX7 := Lib.hid hx7
      have HY7 := Lib.hid hY
      clear hR hH6 hk6 hG6 hb7 hY hx7 HRT
      go_upto_region 7 with fail
      generalize w6.alloc (.cells #[.int .i64 y.to_, .int .i64 y.frm, .int .i64 y.at_, .int .i64 y.seq, .bool y.gone] RT) = w7 at HD HX7 HY7 ⊢
      generalize w6.heap.size = yq at HY7 ⊢
      have x0 := HX7.out.cell (o := 0) rfl
      have x1 := HX7.out.cell (o := 1) rfl
      have x2 := HX7.out.cell (o := 2) rfl
      have z0 := HY7.out.cell (o := 0) rfl
      have z1 := HY7.out.cell (o := 1) rfl
      have z2 := HY7.out.cell (o := 2) rfl
      have z3 := HY7.out.cell (o := 3) rfl
      have z4 := HY7.out.cell (o := 4) rfl
      by_cases he : b1 = b2
      · have hbe : (b1 == b2) = true := by simpa using he
        have HBe := Lib.hid hbe
        clear he
        go_wp2_with (first
          | (go_at_call 86; (with_reducible refine (Calls.mono (HSm.out w7) ?_)); rintro e w8 ⟨rfl, hb8⟩)
          | fail)
        go_ret
        exact ⟨by simp [HBe.out], (HD.out.after hb8).before HB1.out⟩
      · have hbe : (b1 == b2) = false := by simpa using he
        have HBe := Lib.hid hbe
        clear he
        go_wp2_with fail
        go_ret
        exact ⟨by simp [HBe.out], HD.out.before HB1.out⟩
    · rw [if_neg h1, if_neg h1, if_neg h1]
      have h11 : (c.a == 1) = false := by simpa using h1
      by_cases h2 : c.a = 2
      · rw [if_pos h2, if_pos h2, if_pos h2]
        have h22 : (c.a == 2) = true := by simpa using h2
        clear h hc hb1 hq h0 h1 h2
        go_enter Try.func57, Try.ntmps57
        go_upto_region 1 with fail
        generalize w.alloc (.cells #[.int .i64 c.a, .int .i64 c.b, .int .i64 c.c, .int .i64 c.d] 88) = w1 at HB1 HH HQq ⊢
        generalize w.heap.size = q at HqF HQq ⊢
        have y0 := HQq.out.cell (o := 0) rfl
        have y1 := HQq.out.cell (o := 1) rfl
        have y2 := HQq.out.cell (o := 2) rfl
        have y3 := HQq.out.cell (o := 3) rfl

        go_upto_region 9 with fail
        have HS := Lib.hid (remove_calls w1.drew p F n m s c.d HC.out.2.2.2 HH.out.q.drew)
        have HRS := Lib.hid (fun (W : World) (k : Wrote p F n m (remS s c.d) w1.drew W) => rremove_calls W rp G n log c.d (by obtain ⟨F', h1, k1, _⟩ := (HH.out.below ((Below.refl _ _).drew)).wrote k; exact h1.r))
        have HY := Lib.hid (fun (W : World) (k : Wrote p F n m (remS s c.d) w1.drew W) => (show W.cell? ⟨q, 3, none⟩ = some (.int .i64 c.d) from by
          obtain ⟨F', h1, k1, _⟩ := k
          exact (HQq.out.kept (undrewK k1) HqF.out.1).cell (o := 3) rfl))
        have HZ := Lib.hid (fun (W W2 : World) (k : Wrote p F n m (remS s c.d) w1.drew W) (j : RWrote rp G n (markL log c.d) W W2) => (show W2.cell? ⟨q, 3, none⟩ = some (.int .i64 c.d) from by
          obtain ⟨F', h1, k1, _⟩ := k
          obtain ⟨G', h2, k2, _⟩ := j
          exact ((HQq.out.kept (undrewK k1) HqF.out.1).kept k2 HqF.out.2).cell (o := 3) rfl))
        clear y0 y1 y2 h00 h11 h22
        go_region_held3 (fun w' => w'.cell? ⟨q, 3, none⟩ = some (.int .i64 c.d))
          (first | exact y3 | exact HY.out _ hk4.out | exact HZ.out _ _ hk4.out hk5.out)
          ((first
            | (go_at_call 54; (with_reducible refine (Calls.mono HS.out ?_)); rintro e w4 ⟨rfl, hk⟩; have hk4 := Lib.hid hk; clear hk)
            | (go_at_call 87; (with_reducible refine (Calls.mono (HRS.out _ hk4.out) ?_)); rintro e w5 ⟨rfl, hk⟩; have hk5 := Lib.hid hk; clear hk)))
        go_wp2_with fail
        go_ret
        exact ⟨rfl, (done_of (HH.out.below ((Below.refl _ _).drew)) hk4.out (Nat.le_succ _) hk5.out).before HB1.out.drew⟩
      · rw [if_neg h2, if_neg h2, if_neg h2]
        have h22 : (c.a == 2) = false := by simpa using h2
        clear h hc hb1 hq h0 h1 h2
        go_enter Try.func57, Try.ntmps57
        go_upto_region 1 with fail
        generalize w.alloc (.cells #[.int .i64 c.a, .int .i64 c.b, .int .i64 c.c, .int .i64 c.d] 88) = w1 at HB1 HH HQq ⊢
        generalize w.heap.size = q at HqF HQq ⊢
        have y0 := HQq.out.cell (o := 0) rfl
        have y1 := HQq.out.cell (o := 1) rfl
        have y2 := HQq.out.cell (o := 2) rfl
        have y3 := HQq.out.cell (o := 3) rfl

        go_wp2_with fail
        go_ret
        exact ⟨rfl, F, G, m, Nat.le_succ m, HH.out, Kept.of_below HB1.out _, fun x hx => .inl hx, fun x hx => .inl hx⟩
end Go.Proofs.Ytchnhmcedmicgaa.Rem
