/- The contract of the reference's Send. -/
import Derived.Test.YtchnhmcedmicgaaRemN
set_option linter.unusedSimpArgs false
namespace Go.Proofs.Ytchnhmcedmicgaa.Rem
open Go.RowKit Go.Proofs.Ytchnhmcedmicgaa.Aid
def rsendC (n : Nat) (log : List RRow) (f t a : Int) : Int := if (0 ≤ f ∧ f < n) ∧ (0 ≤ t ∧ t < n) ∧ 0 ≤ a ∧ a < 1048576 then (if waitsL log a = true then 15 else 0) else 11
def newR (log : List RRow) (f t a : Int) : RRow := ⟨t, f, a, (sentN log f t : Int) + 1, false⟩
def rsendL (n : Nat) (log : List RRow) (f t a : Int) : List RRow := if rsendC n log f t a = 0 then log ++ [newR log f t a] else log
/-- What an append leaves. -/
structure Gr (W : World) (b : Nat) (g' c' : Nat) (w' : World) (xs : List RRow) : Prop where
  recs : Recs encR 5 w' RT g' c' xs
  hold : ∀ i, i < W.heap.size → i ≠ b → w'.heap[i]? = W.heap[i]?
  own : g' = b ∨ W.heap.size ≤ g'
  size : W.heap.size ≤ w'.heap.size
  os : w'.os = W.os
  tape : w'.tape = W.tape
  output : w'.output = W.output
theorem Gr.below {W w' w : World} {b g' c' : Nat} {xs : List RRow} {base : Nat} (h : Gr W b g' c' w' xs) (hb : Below base w W) (hbs : base ≤ W.heap.size) (h0 : base ≤ b) : Below base w w' ∧ base ≤ g' := by
  refine ⟨hb.trans ⟨h.os, h.tape, h.output, h.size, fun k hk => h.hold k (by omega) (by omega)⟩, ?_⟩
  rcases h.own with e | e
  · omega
  · omega
theorem ap1_run (W : World) (gz : Nat) (hd : Value) (log : List RRow) (h0 : Recs encR 5 W RT gz 0 []) (hH : Hdr encR 5 W RT hd log) (hl : log.length ≤ 100000) :
    ∃ g1 c1 w', (Builtin.append_ #[106, 106] 106 #[.slice (some ⟨gz, 0, none⟩) 0 0, hd]).run Try.prog W = .ok (.slice (some ⟨g1, 0, none⟩) log.length c1) w' ∧ Gr W gz g1 c1 w' log := by
  have hD : Hdr encR 5 W RT (.slice (some ⟨gz, 0, none⟩) 0 0) [] := .inr ⟨gz, 0, rfl, h0⟩
  rcases hH with ⟨rfl, rfl⟩ | ⟨g, c, rfl, hR⟩
  · exact ⟨gz, 0, W, append_nil_run (P := Try.prog) 106 106 RT _ 40 Try.underlying106 infoR encR_len hD, h0, fun _ _ _ => rfl, .inl rfl, Nat.le_refl _, rfl, rfl, rfl⟩
  · obtain ⟨g', c', w', e, hR', hold, hown, hz, z1, z2, z3⟩ := append_hdr_run (P := Try.prog) (W := W) 106 106 RT _ 40 Try.underlying106 infoR rfl (by decide) encR_len encR_one hD hR (.inl (by intro h; cases h)) (by rw [List.length_nil]; omega) (by decide)
    rw [List.nil_append] at hR'
    rw [List.length_nil, Nat.zero_add] at e
    refine ⟨g', c', w', e, hR', fun i hi hne => hold i hi (fun h => hne (Option.some.inj (h : some gz = some i)).symm), ?_, hz, z1, z2, z3⟩
    rcases hown with h | h
    · exact .inl (Option.some.inj (h : some gz = some g')).symm
    · exact .inr h
theorem ap2_run (W : World) (g1 c1 b cb : Nat) (log : List RRow) (r : RRow) (h1 : Recs encR 5 W RT g1 c1 log) (hY : Recs encR 5 W RT b cb [r]) (hl : log.length ≤ 100000) :
    ∃ g2 c2 w', (Builtin.append_ #[106, 106] 106 #[.slice (some ⟨g1, 0, none⟩) log.length c1, .slice (some ⟨b, 0, none⟩) 1 cb]).run Try.prog W = .ok (.slice (some ⟨g2, 0, none⟩) (log.length + 1) c2) w' ∧ Gr W g1 g2 c2 w' (log ++ [r]) := by
  obtain ⟨g', c', w', e, hR', hold, hown, hz, z1, z2, z3⟩ := append_hdr_run (P := Try.prog) (W := W) 106 106 RT _ 40 Try.underlying106 infoR rfl (by decide) encR_len encR_one (.inr ⟨g1, c1, rfl, h1⟩) hY (.inl (by intro h; cases h)) (by rw [List.length_singleton]; omega) (by decide)
  refine ⟨g', c', w', e, hR', fun i hi hne => hold i hi (fun h => hne (Option.some.inj (h : some g1 = some i)).symm), ?_, hz, z1, z2, z3⟩
  rcases hown with h | h
  · exact .inl (Option.some.inj (h : some g1 = some g')).symm
  · exact .inr h
/-- What the two appends make of it, in whichever order their slices are laid. -/
structure Two (w : World) (log : List RRow) (r : RRow) (g2 c2 : Nat) (w' : World) : Prop where
  recs : Recs encR 5 w' RT g2 c2 (log ++ [r])
  le : w.heap.size ≤ g2
  below : Below w.heap.size w w'
theorem recs0 (W : World) : Recs encR 5 (W.alloc (.cells #[] RT)) RT W.heap.size 0 [] := ⟨⟨#[], Blk.new W #[] RT, rfl, rfl⟩, Nat.le_refl _, Nat.zero_le _⟩
theorem recs1 (W : World) (r : RRow) : Recs encR 5 (W.alloc (.cells #[.int .i64 r.to_, .int .i64 r.frm, .int .i64 r.at_, .int .i64 r.seq, .bool r.gone] RT)) RT W.heap.size 1 [r] := Recs.lit W r RT encR_len
abbrev oR (r : RRow) : Obj := .cells #[.int .i64 r.to_, .int .i64 r.frm, .int .i64 r.at_, .int .i64 r.seq, .bool r.gone] RT
theorem scen_a (w : World) (hd : Value) (log : List RRow) (r : RRow) (hH : Hdr encR 5 w RT hd log) (hl : log.length ≤ 100000) : ∃ g1 c1 w1 g2 c2 w2,
    (Builtin.append_ #[106, 106] 106 #[.slice (some ⟨w.heap.size, 0, none⟩) 0 0, hd]).run Try.prog (w.alloc (.cells #[] RT)).drew = .ok (.slice (some ⟨g1, 0, none⟩) log.length c1) w1 ∧
    (Builtin.append_ #[106, 106] 106 #[.slice (some ⟨g1, 0, none⟩) log.length c1, .slice (some ⟨w1.heap.size, 0, none⟩) 1 1]).run Try.prog (w1.alloc (oR r)) = .ok (.slice (some ⟨g2, 0, none⟩) (log.length + 1) c2) w2 ∧ Two w log r g2 c2 w2 ∧ Below w.heap.size w w1 := by
  have hb0 := ((Below.refl w.heap.size w).alloc (Nat.le_refl _) (.cells #[] RT)).drew
  obtain ⟨g1, c1, w1, e1, h1⟩ := ap1_run (w.alloc (.cells #[] RT)).drew w.heap.size hd log (recs0 w).drew (hH.below hb0) hl
  obtain ⟨b1, l1⟩ := h1.below hb0 hb0.size (Nat.le_refl _)
  have hb1 := b1.alloc b1.size (oR r)
  obtain ⟨g2, c2, w2, e2, h2⟩ := ap2_run (w1.alloc (oR r)) g1 c1 w1.heap.size 1 log r (h1.recs.alloc _) (recs1 w1 r) hl
  obtain ⟨b2, l2⟩ := h2.below hb1 hb1.size l1
  exact ⟨g1, c1, w1, g2, c2, w2, e1, e2, ⟨h2.recs, l2, b2⟩, b1⟩
theorem scen_b (w : World) (hd : Value) (log : List RRow) (r : RRow) (hH : Hdr encR 5 w RT hd log) (hl : log.length ≤ 100000) : ∃ g1 c1 w1 g2 c2 w2,
    (Builtin.append_ #[106, 106] 106 #[.slice (some ⟨w.heap.size, 0, none⟩) 0 0, hd]).run Try.prog ((w.alloc (.cells #[] RT)).alloc (oR r)).drew = .ok (.slice (some ⟨g1, 0, none⟩) log.length c1) w1 ∧
    (Builtin.append_ #[106, 106] 106 #[.slice (some ⟨g1, 0, none⟩) log.length c1, .slice (some ⟨w.heap.size + 1, 0, none⟩) 1 1]).run Try.prog w1 = .ok (.slice (some ⟨g2, 0, none⟩) (log.length + 1) c2) w2 ∧ Two w log r g2 c2 w2 ∧ Below w.heap.size w w1 := by
  have hb0 := (Below.refl w.heap.size w).alloc (Nat.le_refl _) (.cells #[] RT)
  have hb1 := (hb0.alloc hb0.size (oR r)).drew
  have hr1 := recs1 (w.alloc (.cells #[] RT)) r
  have hz : (w.alloc (.cells #[] RT)).heap.size = w.heap.size + 1 := by simp
  rw [hz] at hr1
  obtain ⟨g1, c1, w1, e1, h1⟩ := ap1_run ((w.alloc (.cells #[] RT)).alloc (oR r)).drew w.heap.size hd log ((recs0 w).alloc _).drew (hH.below hb1) hl
  obtain ⟨b1, l1⟩ := h1.below hb1 hb1.size (Nat.le_refl _)
  have hr2 : Recs encR 5 w1 RT (w.heap.size + 1) 1 [r] := hr1.drew.same (h1.hold (w.heap.size + 1) hr1.lt (by omega))
  obtain ⟨g2, c2, w2, e2, h2⟩ := ap2_run w1 g1 c1 (w.heap.size + 1) 1 log r h1.recs hr2 hl
  obtain ⟨b2, l2⟩ := h2.below b1 b1.size l1
  exact ⟨g1, c1, w1, g2, c2, w2, e1, e2, ⟨h2.recs, l2, b2⟩, b1⟩
theorem scen_c (w : World) (hd : Value) (log : List RRow) (r : RRow) (hH : Hdr encR 5 w RT hd log) (hl : log.length ≤ 100000) : ∃ g1 c1 w1 g2 c2 w2,
    (Builtin.append_ #[106, 106] 106 #[.slice (some ⟨w.heap.size + 1, 0, none⟩) 0 0, hd]).run Try.prog ((w.alloc (oR r)).alloc (.cells #[] RT)).drew = .ok (.slice (some ⟨g1, 0, none⟩) log.length c1) w1 ∧
    (Builtin.append_ #[106, 106] 106 #[.slice (some ⟨g1, 0, none⟩) log.length c1, .slice (some ⟨w.heap.size, 0, none⟩) 1 1]).run Try.prog w1 = .ok (.slice (some ⟨g2, 0, none⟩) (log.length + 1) c2) w2 ∧ Two w log r g2 c2 w2 ∧ Below w.heap.size w w1 := by
  have hb0 := (Below.refl w.heap.size w).alloc (Nat.le_refl _) (oR r)
  have hb1 := (hb0.alloc hb0.size (.cells #[] RT)).drew
  have hr0 := recs0 (w.alloc (oR r))
  have hz : (w.alloc (oR r)).heap.size = w.heap.size + 1 := by simp
  rw [hz] at hr0
  obtain ⟨g1, c1, w1, e1, h1⟩ := ap1_run ((w.alloc (oR r)).alloc (.cells #[] RT)).drew (w.heap.size + 1) hd log hr0.drew (hH.below hb1) hl
  obtain ⟨b1, l1⟩ := h1.below hb1 hb1.size (by omega)
  have hr1 := (recs1 w r).alloc (.cells #[] RT)
  have hr2 : Recs encR 5 w1 RT w.heap.size 1 [r] := hr1.drew.same (h1.hold w.heap.size hr1.lt (by omega))
  obtain ⟨g2, c2, w2, e2, h2⟩ := ap2_run w1 g1 c1 w.heap.size 1 log r h1.recs hr2 hl
  obtain ⟨b2, l2⟩ := h2.below b1 b1.size l1
  exact ⟨g1, c1, w1, g2, c2, w2, e1, e2, ⟨h2.recs, l2, b2⟩, b1⟩
theorem place_of {log : List RRow} {a : Int} : (waitsL log a = true → ∃ k : Nat, placeV log a = k) ∧ (waitsL log a = false → placeV log a = -1) := by
  unfold waitsL placeV
  cases log.findIdx? (waitsB a) with
  | none => exact ⟨fun h => (by cases h), fun _ => rfl⟩
  | some k => exact ⟨fun _ => ⟨k, rfl⟩, fun h => (by cases h)⟩
set_option maxHeartbeats 8000000 in
theorem rsend_no (w : World) (rp : Nat) (F : List Nat) (n : Nat) (log : List RRow) (f t a : Int) (h : RefQ w rp F n log) (hc : rsendC n log f t a ≠ 0) :
    Calls Try.prog 84 #[.pointer (some ⟨rp, 0, none⟩), .int .i64 f, .int .i64 t, .int .i64 a] w fun e w' => e = .returned (.int .i64 (rsendC n log f t a)) ∧ w = w' := by
  have HF := Lib.hid (rworker_calls w rp F n log f h)
  have HT := Lib.hid (rworker_calls w rp F n log t h)
  unfold rsendC at hc ⊢
  by_cases hr : (0 ≤ f ∧ f < n) ∧ (0 ≤ t ∧ t < n) ∧ 0 ≤ a ∧ a < 1048576
  · rw [if_pos hr] at hc ⊢
    have hwh : waitsL log a = true := by
      by_cases e : waitsL log a = true
      · exact e
      · rw [if_neg e] at hc; exact absurd rfl hc
    rw [if_pos hwh]
    have HW := Lib.hid (place_calls w rp F n log a h)
    obtain ⟨k, hk⟩ := place_of.1 hwh
    rw [hk] at HW
    rw [show isW n f = true from decide_eq_true hr.1] at HF
    rw [show isW n t = true from decide_eq_true hr.2.1] at HT
    have h0 := hr.2.2.1
    have h1 := hr.2.2.2
    have hk0 : (0 : Int) ≤ (k : Int) := by omega
    clear h hc hr hwh hk
    go_enter Try.func84, Try.ntmps84
    go_wp2_with (first
      | (go_at_call 94; (with_reducible refine (Calls.mono HF.out ?_)); rintro e w1 ⟨rfl, rfl⟩)
      | (go_at_call 94; (with_reducible refine (Calls.mono HT.out ?_)); rintro e w1 ⟨rfl, rfl⟩)
      | (go_at_call 62; (with_reducible refine (Calls.mono HW.out ?_)); rintro e w1 ⟨rfl, rfl⟩)
      | fail)
    go_ret
    exact ⟨rfl, rfl⟩
  · rw [if_neg hr]
    by_cases hf : 0 ≤ f ∧ f < n
    · rw [show isW n f = true from decide_eq_true hf] at HF
      by_cases ht : 0 ≤ t ∧ t < n
      · rw [show isW n t = true from decide_eq_true ht] at HT
        by_cases ha : a < 0
        · clear h hc hr hf ht
          go_enter Try.func84, Try.ntmps84
          go_wp2_with (first
            | (go_at_call 94; (with_reducible refine (Calls.mono HF.out ?_)); rintro e w1 ⟨rfl, rfl⟩)
            | (go_at_call 94; (with_reducible refine (Calls.mono HT.out ?_)); rintro e w1 ⟨rfl, rfl⟩)
            | fail)
          go_ret
          exact ⟨rfl, rfl⟩
        · have ha2 : 1048576 ≤ a := by omega
          clear h hc hr hf ht
          go_enter Try.func84, Try.ntmps84
          go_wp2_with (first
            | (go_at_call 94; (with_reducible refine (Calls.mono HF.out ?_)); rintro e w1 ⟨rfl, rfl⟩)
            | (go_at_call 94; (with_reducible refine (Calls.mono HT.out ?_)); rintro e w1 ⟨rfl, rfl⟩)
            | fail)
          go_ret
          exact ⟨rfl, rfl⟩
      · rw [show isW n t = false from decide_eq_false ht] at HT
        clear h hc hr hf ht
        go_enter Try.func84, Try.ntmps84
        go_wp2_with (first
          | (go_at_call 94; (with_reducible refine (Calls.mono HF.out ?_)); rintro e w1 ⟨rfl, rfl⟩)
          | (go_at_call 94; (with_reducible refine (Calls.mono HT.out ?_)); rintro e w1 ⟨rfl, rfl⟩)
          | fail)
        go_ret
        exact ⟨rfl, rfl⟩
    · rw [show isW n f = false from decide_eq_false hf] at HF
      clear h hc hr hf
      go_enter Try.func84, Try.ntmps84
      go_wp2_with (first
        | (go_at_call 94; (with_reducible refine (Calls.mono HF.out ?_)); rintro e w1 ⟨rfl, rfl⟩)
        | fail)
      go_ret
      exact ⟨rfl, rfl⟩
set_option maxHeartbeats 8000000 in
attribute [-go_sem] Builtin.append_ in
theorem rsend_yes (w : World) (rp : Nat) (F : List Nat) (n : Nat) (log : List RRow) (f t a : Int) (h : RefQ w rp F n log) (hc : rsendC n log f t a = 0) (hlen : log.length < 100000) :
    Calls Try.prog 84 #[.pointer (some ⟨rp, 0, none⟩), .int .i64 f, .int .i64 t, .int .i64 a] w fun e w' => e = .returned (.int .i64 0) ∧ RWrote rp F n (log ++ [newR log f t a]) w w' := by
  have HF := Lib.hid (rworker_calls w rp F n log f h)
  have HT := Lib.hid (rworker_calls w rp F n log t h)
  have HQ := Lib.hid h
  obtain ⟨hr, hwh⟩ : ((0 ≤ f ∧ f < n) ∧ (0 ≤ t ∧ t < n) ∧ 0 ≤ a ∧ a < 1048576) ∧ waitsL log a = false := by
    unfold rsendC at hc
    split at hc
    · next h1 =>
      split at hc
      · omega
      · next h2 => exact ⟨h1, by simpa using h2⟩
    · omega
  have HW := Lib.hid (place_calls w rp F n log a h)
  rw [place_of.2 hwh] at HW
  rw [show isW n f = true from decide_eq_true hr.1] at HF
  rw [show isW n t = true from decide_eq_true hr.2.1] at HT
  have ha0 := hr.2.2.1
  have ha1 := hr.2.2.2
  have HSn := Lib.hid (rsent_calls w rp F n log f t h)
  have hcn : sentN log f t ≤ log.length := List.length_filter_le _ _
  obtain ⟨sq, hsq⟩ : ∃ sq : Int, sq = (sentN log f t : Int) + 1 := ⟨_, rfl⟩
  have hsw : IntKind.i64.wrap ((sentN log f t : Nat) + 1) = sq := by rw [IntWalk.i64_in _ (by omega)]; omega
  have HNr := Lib.hid (show newR log f t a = ⟨t, f, a, sq, false⟩ by unfold newR; rw [hsq])
  obtain ⟨hd, h1, h2, h3⟩ := h.ex
  have HX := Lib.hid (And.intro h1 (And.intro h2 h3))
  clear h hc hr hwh hsq hcn h1 h2 h3
  generalize sentN log f t = cn at HSn hsw
  go_enter Try.func84, Try.ntmps84
  go_upto_region 6 with (first
    | (go_at_call 94; (with_reducible refine (Calls.mono HF.out ?_)); rintro e w1 ⟨rfl, rfl⟩)
    | (go_at_call 94; (with_reducible refine (Calls.mono HT.out ?_)); rintro e w1 ⟨rfl, rfl⟩)
    | (go_at_call 62; (with_reducible refine (Calls.mono HW.out ?_)); rintro e w1 ⟨rfl, rfl⟩)
    | (go_at_call 66; (with_reducible refine (Calls.mono HSn.out ?_)); rintro e w1 ⟨rfl, rfl⟩)
    | fail)
  have hb5 := (Below.refl w.heap.size w).alloc (Nat.le_refl _) (.cells #[.int .i64 t, .int .i64 f, .int .i64 a, .int .i64 sq, .bool false] RT)
  have hq5 := Blk.new w #[.int .i64 t, .int .i64 f, .int .i64 a, .int .i64 sq, .bool false] RT
  have HB5 := Lib.hid hb5
  have h1 := HX.out.1.below hb5
  have h2 := HX.out.2.1.below hb5
  clear HF HT HW HSn hb5
  generalize w.alloc (.cells #[.int .i64 t, .int .i64 f, .int .i64 a, .int .i64 sq, .bool false] RT) = w5 at HB5 h1 h2 hq5 ⊢
  have Hqr := Lib.hid (show w.heap.size ≠ rp from by have := HX.out.1.lt; omega)
  have Hsz := Lib.hid (Nat.le_refl w.heap.size)
  generalize hqe : w.heap.size = q at hq5 Hqr ⊢
  clear hqe
  obtain ⟨ga, ca, wa, gA, cA, wA, ea1, ea2, TA, ba⟩ := scen_a w5 hd log ⟨t, f, a, sq, false⟩ h2 (by omega)
  obtain ⟨gb, cb, wb, gB, cB, wB, eb1, eb2, TB, bb⟩ := scen_b w5 hd log ⟨t, f, a, sq, false⟩ h2 (by omega)
  obtain ⟨gc, cc, wc, gC, cC, wC, ec1, ec2, TC, bc⟩ := scen_c w5 hd log ⟨t, f, a, sq, false⟩ h2 (by omega)
  have ea2 : (Builtin.append_ #[106, 106] 106 #[.slice (some ⟨ga, 0, none⟩) log.length ca, .slice (some ⟨wa.heap.size, 0, none⟩) 1 1]).run Try.prog (wa.alloc (.cells #[.int .i64 t, .int .i64 f, .int .i64 a, .int .i64 sq, .bool false] RT)) = .ok (.slice (some ⟨gA, 0, none⟩) (log.length + 1) cA) wA := ea2
  have eb1 : (Builtin.append_ #[106, 106] 106 #[.slice (some ⟨w5.heap.size, 0, none⟩) 0 0, hd]).run Try.prog ((w5.alloc (.cells #[] RT)).alloc (.cells #[.int .i64 t, .int .i64 f, .int .i64 a, .int .i64 sq, .bool false] RT)).drew = .ok (.slice (some ⟨gb, 0, none⟩) log.length cb) wb := eb1
  have ec1 : (Builtin.append_ #[106, 106] 106 #[.slice (some ⟨w5.heap.size + 1, 0, none⟩) 0 0, hd]).run Try.prog ((w5.alloc (.cells #[.int .i64 t, .int .i64 f, .int .i64 a, .int .i64 sq, .bool false] RT)).alloc (.cells #[] RT)).drew = .ok (.slice (some ⟨gc, 0, none⟩) log.length cc) wc := ec1
  have HSf := Lib.hid (fun (W : World) (hb : Below w5.heap.size w5 W) => (show W.cell? ⟨q, 0, none⟩ = some (.int .i64 t) ∧ W.cell? ⟨q, 1, none⟩ = some (.int .i64 f) ∧ W.cell? ⟨q, 2, none⟩ = some (.int .i64 a) ∧ W.cell? ⟨q, 3, none⟩ = some (.int .i64 sq) ∧ W.cell? ⟨q, 4, none⟩ = some (.bool false) from by
    have hq := hq5.below hb
    exact ⟨hq.cell (o := 0) rfl, hq.cell (o := 1) rfl, hq.cell (o := 2) rfl, hq.cell (o := 3) rfl, hq.cell (o := 4) rfl⟩))
  have hqr := Hqr.out
  have HSg := Lib.hid (fun (W : World) (hb : Below w5.heap.size w5 W) (v : Value) => (show (W.setCell ⟨rp, 1, none⟩ v).cell? ⟨q, 0, none⟩ = some (.int .i64 t) ∧ (W.setCell ⟨rp, 1, none⟩ v).cell? ⟨q, 1, none⟩ = some (.int .i64 f) ∧ (W.setCell ⟨rp, 1, none⟩ v).cell? ⟨q, 2, none⟩ = some (.int .i64 a) ∧ (W.setCell ⟨rp, 1, none⟩ v).cell? ⟨q, 3, none⟩ = some (.int .i64 sq) ∧ (W.setCell ⟨rp, 1, none⟩ v).cell? ⟨q, 4, none⟩ = some (.bool false) from by
    have hq := (hq5.below hb).other (a := ⟨rp, 1, none⟩) hqr v
    exact ⟨hq.cell (o := 0) rfl, hq.cell (o := 1) rfl, hq.cell (o := 2) rfl, hq.cell (o := 3) rfl, hq.cell (o := 4) rfl⟩))
  have b0 := Below.refl w5.heap.size w5
  have b1 := b0.alloc (Nat.le_refl _) (.cells #[] RT)
  have b2 := b0.alloc (Nat.le_refl _) (.cells #[.int .i64 t, .int .i64 f, .int .i64 a, .int .i64 sq, .bool false] RT)
  have b3 := b1.alloc b1.size (.cells #[.int .i64 t, .int .i64 f, .int .i64 a, .int .i64 sq, .bool false] RT)
  have b4 := b2.alloc b2.size (.cells #[] RT)
  have b8 := ba.alloc ba.size (.cells #[.int .i64 t, .int .i64 f, .int .i64 a, .int .i64 sq, .bool false] RT)
  have k0 := h1.cell (o := 1) rfl
  have k1 := (h1.below b1).cell (o := 1) rfl
  have k2 := (h1.below b2).cell (o := 1) rfl
  have k3 := (h1.below b3).cell (o := 1) rfl
  have k4 := (h1.below b4).cell (o := 1) rfl
  have k5 := (h1.below TA.below).cell (o := 1) rfl
  have k6 := (h1.below TB.below).cell (o := 1) rfl
  have k7 := (h1.below TC.below).cell (o := 1) rfl
  have f5 := (h1.below TA.below).free 1
  have f6 := (h1.below TB.below).free 1
  have f7 := (h1.below TC.below).free 1
  have HTA := Lib.hid TA
  have HTB := Lib.hid TB
  have HTC := Lib.hid TC
  have S0 := Lib.hid (HSf.out _ b0.drew)
  have S1 := Lib.hid (HSf.out _ b1.drew)
  have S2 := Lib.hid (HSf.out _ b2.drew)
  have S3 := Lib.hid (HSf.out _ b3.drew)
  have S4 := Lib.hid (HSf.out _ b4.drew)
  have S5 := Lib.hid (HSf.out _ ba)
  have S6 := Lib.hid (HSf.out _ bb)
  have S7 := Lib.hid (HSf.out _ bc)
  have S8 := Lib.hid (HSf.out _ b8)
  have S9 := Lib.hid (HSf.out _ TA.below)
  have S10 := Lib.hid (HSf.out _ TB.below)
  have S11 := Lib.hid (HSf.out _ TC.below)
  have S12 := Lib.hid (HSg.out _ TA.below (.slice (some ⟨gA, 0, none⟩) (log.length + 1) cA))
  have S13 := Lib.hid (HSg.out _ TB.below (.slice (some ⟨gB, 0, none⟩) (log.length + 1) cB))
  have S14 := Lib.hid (HSg.out _ TC.below (.slice (some ⟨gC, 0, none⟩) (log.length + 1) cC))
  have H1 := Lib.hid h1
  clear TA TB TC ba bb bc b0 b1 b2 b3 b4 b8 h1 h2 hq5 hqr HSf HSg
  go_cut [] (fun wz => ∃ g c W, wz = W.setCell ⟨rp, 1, none⟩ (.slice (some ⟨g, 0, none⟩) (log.length + 1) c) ∧ Two w5 log ⟨t, f, a, sq, false⟩ g c W)
  case first =>
    refine wp_region_held_drew (S := fun w' => w'.cell? ⟨q, 0, none⟩ = some (.int .i64 t) ∧ w'.cell? ⟨q, 1, none⟩ = some (.int .i64 f) ∧ w'.cell? ⟨q, 2, none⟩ = some (.int .i64 a) ∧ w'.cell? ⟨q, 3, none⟩ = some (.int .i64 sq) ∧ w'.cell? ⟨q, 4, none⟩ = some (.bool false)) (by kernel_rfl) ?_ (fun hHeld => ?_)
    · (try dsimp only); (first | exact S0.out | exact S1.out | exact S2.out | exact S3.out | exact S4.out | exact S5.out | exact S6.out | exact S7.out | exact S8.out | exact S9.out | exact S10.out | exact S11.out | exact S12.out | exact S13.out | exact S14.out)
    refine wpAnyH_take (i := 0) (v := ?_) rfl (by kernel_rfl) (by kernel_rfl) (by kernel_rfl) (fun _ _ _ h => h) (Or.inl ⟨by rfl, ?_⟩) (by assumption) ?_
    rotate_left
    · (intro w hSw; (try dsimp only at hSw); go_simp <;> with_reducible rfl)
    (try simp only [Act.put, List.setIfInBounds_toArray, List.set_cons_zero, List.set_cons_succ])
    refine wpAnyH_take (i := 2) (v := ?_) rfl (by kernel_rfl) (by kernel_rfl) (by kernel_rfl) (fun _ _ _ h => h) (Or.inl ⟨by rfl, ?_⟩) (by assumption) ?_
    rotate_left
    · (intro w hSw; (try dsimp only at hSw); go_simp <;> with_reducible rfl)
    (try simp only [Act.put, List.setIfInBounds_toArray, List.set_cons_zero, List.set_cons_succ])
    refine wpAnyH_take (i := 3) (v := ?_) rfl (by kernel_rfl) (by kernel_rfl) (by kernel_rfl) (fun _ _ _ h => h) (Or.inl ⟨by rfl, ?_⟩) (by assumption) ?_
    rotate_left
    · (intro w hSw; (try dsimp only at hSw); go_simp <;> with_reducible rfl)
    (try simp only [Act.put, List.setIfInBounds_toArray, List.set_cons_zero, List.set_cons_succ])
    refine wpAnyH_take (i := 4) (v := ?_) rfl (by kernel_rfl) (by kernel_rfl) (by kernel_rfl) (fun _ _ _ h => h) (Or.inl ⟨by rfl, ?_⟩) (by assumption) ?_
    rotate_left
    · (intro w hSw; (try dsimp only at hSw); go_simp <;> with_reducible rfl)
    (try simp only [Act.put, List.setIfInBounds_toArray, List.set_cons_zero, List.set_cons_succ])
    refine wpAnyH_take (i := 7) (v := ?_) rfl (by kernel_rfl) (by kernel_rfl) (by kernel_rfl) (fun _ _ _ h => h) (Or.inl ⟨by rfl, ?_⟩) (by assumption) ?_
    rotate_left
    · (intro w hSw; (try dsimp only at hSw); go_simp <;> with_reducible rfl)
    (try simp only [Act.put, List.setIfInBounds_toArray, List.set_cons_zero, List.set_cons_succ])
    refine wpAnyH_ready (rs := [1, 5, 8]) (by kernel_rfl) (by simp) ?_
    refine AllReadyH.cons rfl (fun K hK => ?_) ?_
    · go_simp
      refine hK.out _ _ ?_ (fun hHeld => ?_)
      · (try dsimp only); (first | exact S0.out | exact S1.out | exact S2.out | exact S3.out | exact S4.out | exact S5.out | exact S6.out | exact S7.out | exact S8.out | exact S9.out | exact S10.out | exact S11.out | exact S12.out | exact S13.out | exact S14.out)
      clear hK K
      (try simp only [Act.put, List.setIfInBounds_toArray, List.set_cons_zero, List.set_cons_succ])
      refine wpAnyH_ready (rs := [5, 8]) (by kernel_rfl) (by simp) ?_
      refine AllReadyH.cons rfl (fun K hK => ?_) ?_
      · go_simp
        refine hK.out _ _ ?_ (fun hHeld => ?_)
        · (try dsimp only); (first | exact S0.out | exact S1.out | exact S2.out | exact S3.out | exact S4.out | exact S5.out | exact S6.out | exact S7.out | exact S8.out | exact S9.out | exact S10.out | exact S11.out | exact S12.out | exact S13.out | exact S14.out)
        clear hK K
        (try simp only [Act.put, List.setIfInBounds_toArray, List.set_cons_zero, List.set_cons_succ])
        refine wpAnyH_ready (rs := [6, 8]) (by kernel_rfl) (by simp) ?_
        refine AllReadyH.cons rfl (fun K hK => ?_) ?_
        · go_simp
          refine hK.out _ _ ?_ (fun hHeld => ?_)
          · (try dsimp only); (first | exact S0.out | exact S1.out | exact S2.out | exact S3.out | exact S4.out | exact S5.out | exact S6.out | exact S7.out | exact S8.out | exact S9.out | exact S10.out | exact S11.out | exact S12.out | exact S13.out | exact S14.out)
          clear hK K
          (try simp only [Act.put, List.setIfInBounds_toArray, List.set_cons_zero, List.set_cons_succ])
          refine wpAnyH_ready (rs := [8]) (by kernel_rfl) (by simp) ?_
          refine AllReadyH.cons rfl (fun K hK => ?_) ?_
          · go_simp
            refine hK.out _ _ ?_ (fun hHeld => ?_)
            · (try dsimp only); (first | exact S0.out | exact S1.out | exact S2.out | exact S3.out | exact S4.out | exact S5.out | exact S6.out | exact S7.out | exact S8.out | exact S9.out | exact S10.out | exact S11.out | exact S12.out | exact S13.out | exact S14.out)
            clear hK K
            (try simp only [Act.put, List.setIfInBounds_toArray, List.set_cons_zero, List.set_cons_succ])
            refine wpAnyH_ready (rs := [9]) (by kernel_rfl) (by simp) ?_
            refine AllReadyH.cons rfl (fun K hK => ?_) ?_
            · go_simp
              refine hK.out _ _ ?_ (fun hHeld => ?_)
              · (try dsimp only); (first | exact S0.out | exact S1.out | exact S2.out | exact S3.out | exact S4.out | exact S5.out | exact S6.out | exact S7.out | exact S8.out | exact S9.out | exact S10.out | exact S11.out | exact S12.out | exact S13.out | exact S14.out)
              clear hK K
              (try simp only [Act.put, List.setIfInBounds_toArray, List.set_cons_zero, List.set_cons_succ])
              refine wpAnyH_take (i := 10) (v := ?_) rfl (by kernel_rfl) (by kernel_rfl) (by kernel_rfl) (fun _ _ _ h => h) (Or.inl ⟨by rfl, ?_⟩) (by assumption) ?_
              rotate_left
              · (intro w hSw; (try dsimp only at hSw); go_simp <;> with_reducible rfl)
              (try simp only [Act.put, List.setIfInBounds_toArray, List.set_cons_zero, List.set_cons_succ])
              refine wpAnyH_take (i := 11) (v := ?_) rfl (by kernel_rfl) (by kernel_rfl) (by kernel_rfl) (fun _ _ _ h => h) (Or.inl ⟨by rfl, ?_⟩) (by assumption) ?_
              rotate_left
              · (intro w hSw; (try dsimp only at hSw); go_simp <;> with_reducible rfl)
              (try simp only [Act.put, List.setIfInBounds_toArray, List.set_cons_zero, List.set_cons_succ])
              refine wpAnyH_ready (rs := [12]) (by kernel_rfl) (by simp) ?_
              refine AllReadyH.cons rfl (fun K hK => ?_) ?_
              · go_simp
                refine hK.out _ _ ?_ (fun hHeld => ?_)
                · (try dsimp only); (first | exact S0.out | exact S1.out | exact S2.out | exact S3.out | exact S4.out | exact S5.out | exact S6.out | exact S7.out | exact S8.out | exact S9.out | exact S10.out | exact S11.out | exact S12.out | exact S13.out | exact S14.out)
                clear hK K
                (try simp only [Act.put, List.setIfInBounds_toArray, List.set_cons_zero, List.set_cons_succ])
                refine wpAnyH_done (by kernel_rfl) ?_ _
                go_wp2_with fail
                go_meet
                (first | exact ⟨_, _, _, rfl, HTA.out⟩ | exact ⟨_, _, _, rfl, HTB.out⟩ | exact ⟨_, _, _, rfl, HTC.out⟩)
              exact AllReadyH.nil
            exact AllReadyH.nil
          exact AllReadyH.nil
        refine AllReadyH.cons rfl (fun K hK => ?_) ?_
        · go_simp
          refine hK.out _ _ ?_ (fun hHeld => ?_)
          · (try dsimp only); (first | exact S0.out | exact S1.out | exact S2.out | exact S3.out | exact S4.out | exact S5.out | exact S6.out | exact S7.out | exact S8.out | exact S9.out | exact S10.out | exact S11.out | exact S12.out | exact S13.out | exact S14.out)
          clear hK K
          (try simp only [Act.put, List.setIfInBounds_toArray, List.set_cons_zero, List.set_cons_succ])
          refine wpAnyH_ready (rs := [6]) (by kernel_rfl) (by simp) ?_
          refine AllReadyH.cons rfl (fun K hK => ?_) ?_
          · go_simp
            refine hK.out _ _ ?_ (fun hHeld => ?_)
            · (try dsimp only); (first | exact S0.out | exact S1.out | exact S2.out | exact S3.out | exact S4.out | exact S5.out | exact S6.out | exact S7.out | exact S8.out | exact S9.out | exact S10.out | exact S11.out | exact S12.out | exact S13.out | exact S14.out)
            clear hK K
            (try simp only [Act.put, List.setIfInBounds_toArray, List.set_cons_zero, List.set_cons_succ])
            refine wpAnyH_ready (rs := [9]) (by kernel_rfl) (by simp) ?_
            refine AllReadyH.cons rfl (fun K hK => ?_) ?_
            · go_simp
              refine hK.out _ _ ?_ (fun hHeld => ?_)
              · (try dsimp only); (first | exact S0.out | exact S1.out | exact S2.out | exact S3.out | exact S4.out | exact S5.out | exact S6.out | exact S7.out | exact S8.out | exact S9.out | exact S10.out | exact S11.out | exact S12.out | exact S13.out | exact S14.out)
              clear hK K
              (try simp only [Act.put, List.setIfInBounds_toArray, List.set_cons_zero, List.set_cons_succ])
              refine wpAnyH_take (i := 10) (v := ?_) rfl (by kernel_rfl) (by kernel_rfl) (by kernel_rfl) (fun _ _ _ h => h) (Or.inl ⟨by rfl, ?_⟩) (by assumption) ?_
              rotate_left
              · (intro w hSw; (try dsimp only at hSw); go_simp <;> with_reducible rfl)
              (try simp only [Act.put, List.setIfInBounds_toArray, List.set_cons_zero, List.set_cons_succ])
              refine wpAnyH_take (i := 11) (v := ?_) rfl (by kernel_rfl) (by kernel_rfl) (by kernel_rfl) (fun _ _ _ h => h) (Or.inl ⟨by rfl, ?_⟩) (by assumption) ?_
              rotate_left
              · (intro w hSw; (try dsimp only at hSw); go_simp <;> with_reducible rfl)
              (try simp only [Act.put, List.setIfInBounds_toArray, List.set_cons_zero, List.set_cons_succ])
              refine wpAnyH_ready (rs := [12]) (by kernel_rfl) (by simp) ?_
              refine AllReadyH.cons rfl (fun K hK => ?_) ?_
              · go_simp
                refine hK.out _ _ ?_ (fun hHeld => ?_)
                · (try dsimp only); (first | exact S0.out | exact S1.out | exact S2.out | exact S3.out | exact S4.out | exact S5.out | exact S6.out | exact S7.out | exact S8.out | exact S9.out | exact S10.out | exact S11.out | exact S12.out | exact S13.out | exact S14.out)
                clear hK K
                (try simp only [Act.put, List.setIfInBounds_toArray, List.set_cons_zero, List.set_cons_succ])
                refine wpAnyH_done (by kernel_rfl) ?_ _
                go_wp2_with fail
                go_meet
                (first | exact ⟨_, _, _, rfl, HTA.out⟩ | exact ⟨_, _, _, rfl, HTB.out⟩ | exact ⟨_, _, _, rfl, HTC.out⟩)
              exact AllReadyH.nil
            exact AllReadyH.nil
          exact AllReadyH.nil
        exact AllReadyH.nil
      refine AllReadyH.cons rfl (fun K hK => ?_) ?_
      · go_simp
        refine hK.out _ _ ?_ (fun hHeld => ?_)
        · (try dsimp only); (first | exact S0.out | exact S1.out | exact S2.out | exact S3.out | exact S4.out | exact S5.out | exact S6.out | exact S7.out | exact S8.out | exact S9.out | exact S10.out | exact S11.out | exact S12.out | exact S13.out | exact S14.out)
        clear hK K
        (try simp only [Act.put, List.setIfInBounds_toArray, List.set_cons_zero, List.set_cons_succ])
        refine wpAnyH_ready (rs := [5]) (by kernel_rfl) (by simp) ?_
        refine AllReadyH.cons rfl (fun K hK => ?_) ?_
        · go_simp
          refine hK.out _ _ ?_ (fun hHeld => ?_)
          · (try dsimp only); (first | exact S0.out | exact S1.out | exact S2.out | exact S3.out | exact S4.out | exact S5.out | exact S6.out | exact S7.out | exact S8.out | exact S9.out | exact S10.out | exact S11.out | exact S12.out | exact S13.out | exact S14.out)
          clear hK K
          (try simp only [Act.put, List.setIfInBounds_toArray, List.set_cons_zero, List.set_cons_succ])
          refine wpAnyH_ready (rs := [6]) (by kernel_rfl) (by simp) ?_
          refine AllReadyH.cons rfl (fun K hK => ?_) ?_
          · go_simp
            refine hK.out _ _ ?_ (fun hHeld => ?_)
            · (try dsimp only); (first | exact S0.out | exact S1.out | exact S2.out | exact S3.out | exact S4.out | exact S5.out | exact S6.out | exact S7.out | exact S8.out | exact S9.out | exact S10.out | exact S11.out | exact S12.out | exact S13.out | exact S14.out)
            clear hK K
            (try simp only [Act.put, List.setIfInBounds_toArray, List.set_cons_zero, List.set_cons_succ])
            refine wpAnyH_ready (rs := [9]) (by kernel_rfl) (by simp) ?_
            refine AllReadyH.cons rfl (fun K hK => ?_) ?_
            · go_simp
              refine hK.out _ _ ?_ (fun hHeld => ?_)
              · (try dsimp only); (first | exact S0.out | exact S1.out | exact S2.out | exact S3.out | exact S4.out | exact S5.out | exact S6.out | exact S7.out | exact S8.out | exact S9.out | exact S10.out | exact S11.out | exact S12.out | exact S13.out | exact S14.out)
              clear hK K
              (try simp only [Act.put, List.setIfInBounds_toArray, List.set_cons_zero, List.set_cons_succ])
              refine wpAnyH_take (i := 10) (v := ?_) rfl (by kernel_rfl) (by kernel_rfl) (by kernel_rfl) (fun _ _ _ h => h) (Or.inl ⟨by rfl, ?_⟩) (by assumption) ?_
              rotate_left
              · (intro w hSw; (try dsimp only at hSw); go_simp <;> with_reducible rfl)
              (try simp only [Act.put, List.setIfInBounds_toArray, List.set_cons_zero, List.set_cons_succ])
              refine wpAnyH_take (i := 11) (v := ?_) rfl (by kernel_rfl) (by kernel_rfl) (by kernel_rfl) (fun _ _ _ h => h) (Or.inl ⟨by rfl, ?_⟩) (by assumption) ?_
              rotate_left
              · (intro w hSw; (try dsimp only at hSw); go_simp <;> with_reducible rfl)
              (try simp only [Act.put, List.setIfInBounds_toArray, List.set_cons_zero, List.set_cons_succ])
              refine wpAnyH_ready (rs := [12]) (by kernel_rfl) (by simp) ?_
              refine AllReadyH.cons rfl (fun K hK => ?_) ?_
              · go_simp
                refine hK.out _ _ ?_ (fun hHeld => ?_)
                · (try dsimp only); (first | exact S0.out | exact S1.out | exact S2.out | exact S3.out | exact S4.out | exact S5.out | exact S6.out | exact S7.out | exact S8.out | exact S9.out | exact S10.out | exact S11.out | exact S12.out | exact S13.out | exact S14.out)
                clear hK K
                (try simp only [Act.put, List.setIfInBounds_toArray, List.set_cons_zero, List.set_cons_succ])
                refine wpAnyH_done (by kernel_rfl) ?_ _
                go_wp2_with fail
                go_meet
                (first | exact ⟨_, _, _, rfl, HTA.out⟩ | exact ⟨_, _, _, rfl, HTB.out⟩ | exact ⟨_, _, _, rfl, HTC.out⟩)
              exact AllReadyH.nil
            exact AllReadyH.nil
          exact AllReadyH.nil
        exact AllReadyH.nil
      exact AllReadyH.nil
    refine AllReadyH.cons rfl (fun K hK => ?_) ?_
    · go_simp
      refine hK.out _ _ ?_ (fun hHeld => ?_)
      · (try dsimp only); (first | exact S0.out | exact S1.out | exact S2.out | exact S3.out | exact S4.out | exact S5.out | exact S6.out | exact S7.out | exact S8.out | exact S9.out | exact S10.out | exact S11.out | exact S12.out | exact S13.out | exact S14.out)
      clear hK K
      (try simp only [Act.put, List.setIfInBounds_toArray, List.set_cons_zero, List.set_cons_succ])
      refine wpAnyH_ready (rs := [1, 8]) (by kernel_rfl) (by simp) ?_
      refine AllReadyH.cons rfl (fun K hK => ?_) ?_
      · go_simp
        refine hK.out _ _ ?_ (fun hHeld => ?_)
        · (try dsimp only); (first | exact S0.out | exact S1.out | exact S2.out | exact S3.out | exact S4.out | exact S5.out | exact S6.out | exact S7.out | exact S8.out | exact S9.out | exact S10.out | exact S11.out | exact S12.out | exact S13.out | exact S14.out)
        clear hK K
        (try simp only [Act.put, List.setIfInBounds_toArray, List.set_cons_zero, List.set_cons_succ])
        refine wpAnyH_ready (rs := [6, 8]) (by kernel_rfl) (by simp) ?_
        refine AllReadyH.cons rfl (fun K hK => ?_) ?_
        · go_simp
          refine hK.out _ _ ?_ (fun hHeld => ?_)
          · (try dsimp only); (first | exact S0.out | exact S1.out | exact S2.out | exact S3.out | exact S4.out | exact S5.out | exact S6.out | exact S7.out | exact S8.out | exact S9.out | exact S10.out | exact S11.out | exact S12.out | exact S13.out | exact S14.out)
          clear hK K
          (try simp only [Act.put, List.setIfInBounds_toArray, List.set_cons_zero, List.set_cons_succ])
          refine wpAnyH_ready (rs := [8]) (by kernel_rfl) (by simp) ?_
          refine AllReadyH.cons rfl (fun K hK => ?_) ?_
          · go_simp
            refine hK.out _ _ ?_ (fun hHeld => ?_)
            · (try dsimp only); (first | exact S0.out | exact S1.out | exact S2.out | exact S3.out | exact S4.out | exact S5.out | exact S6.out | exact S7.out | exact S8.out | exact S9.out | exact S10.out | exact S11.out | exact S12.out | exact S13.out | exact S14.out)
            clear hK K
            (try simp only [Act.put, List.setIfInBounds_toArray, List.set_cons_zero, List.set_cons_succ])
            refine wpAnyH_ready (rs := [9]) (by kernel_rfl) (by simp) ?_
            refine AllReadyH.cons rfl (fun K hK => ?_) ?_
            · go_simp
              refine hK.out _ _ ?_ (fun hHeld => ?_)
              · (try dsimp only); (first | exact S0.out | exact S1.out | exact S2.out | exact S3.out | exact S4.out | exact S5.out | exact S6.out | exact S7.out | exact S8.out | exact S9.out | exact S10.out | exact S11.out | exact S12.out | exact S13.out | exact S14.out)
              clear hK K
              (try simp only [Act.put, List.setIfInBounds_toArray, List.set_cons_zero, List.set_cons_succ])
              refine wpAnyH_take (i := 10) (v := ?_) rfl (by kernel_rfl) (by kernel_rfl) (by kernel_rfl) (fun _ _ _ h => h) (Or.inl ⟨by rfl, ?_⟩) (by assumption) ?_
              rotate_left
              · (intro w hSw; (try dsimp only at hSw); go_simp <;> with_reducible rfl)
              (try simp only [Act.put, List.setIfInBounds_toArray, List.set_cons_zero, List.set_cons_succ])
              refine wpAnyH_take (i := 11) (v := ?_) rfl (by kernel_rfl) (by kernel_rfl) (by kernel_rfl) (fun _ _ _ h => h) (Or.inl ⟨by rfl, ?_⟩) (by assumption) ?_
              rotate_left
              · (intro w hSw; (try dsimp only at hSw); go_simp <;> with_reducible rfl)
              (try simp only [Act.put, List.setIfInBounds_toArray, List.set_cons_zero, List.set_cons_succ])
              refine wpAnyH_ready (rs := [12]) (by kernel_rfl) (by simp) ?_
              refine AllReadyH.cons rfl (fun K hK => ?_) ?_
              · go_simp
                refine hK.out _ _ ?_ (fun hHeld => ?_)
                · (try dsimp only); (first | exact S0.out | exact S1.out | exact S2.out | exact S3.out | exact S4.out | exact S5.out | exact S6.out | exact S7.out | exact S8.out | exact S9.out | exact S10.out | exact S11.out | exact S12.out | exact S13.out | exact S14.out)
                clear hK K
                (try simp only [Act.put, List.setIfInBounds_toArray, List.set_cons_zero, List.set_cons_succ])
                refine wpAnyH_done (by kernel_rfl) ?_ _
                go_wp2_with fail
                go_meet
                (first | exact ⟨_, _, _, rfl, HTA.out⟩ | exact ⟨_, _, _, rfl, HTB.out⟩ | exact ⟨_, _, _, rfl, HTC.out⟩)
              exact AllReadyH.nil
            exact AllReadyH.nil
          exact AllReadyH.nil
        refine AllReadyH.cons rfl (fun K hK => ?_) ?_
        · go_simp
          refine hK.out _ _ ?_ (fun hHeld => ?_)
          · (try dsimp only); (first | exact S0.out | exact S1.out | exact S2.out | exact S3.out | exact S4.out | exact S5.out | exact S6.out | exact S7.out | exact S8.out | exact S9.out | exact S10.out | exact S11.out | exact S12.out | exact S13.out | exact S14.out)
          clear hK K
          (try simp only [Act.put, List.setIfInBounds_toArray, List.set_cons_zero, List.set_cons_succ])
          refine wpAnyH_ready (rs := [6]) (by kernel_rfl) (by simp) ?_
          refine AllReadyH.cons rfl (fun K hK => ?_) ?_
          · go_simp
            refine hK.out _ _ ?_ (fun hHeld => ?_)
            · (try dsimp only); (first | exact S0.out | exact S1.out | exact S2.out | exact S3.out | exact S4.out | exact S5.out | exact S6.out | exact S7.out | exact S8.out | exact S9.out | exact S10.out | exact S11.out | exact S12.out | exact S13.out | exact S14.out)
            clear hK K
            (try simp only [Act.put, List.setIfInBounds_toArray, List.set_cons_zero, List.set_cons_succ])
            refine wpAnyH_ready (rs := [9]) (by kernel_rfl) (by simp) ?_
            refine AllReadyH.cons rfl (fun K hK => ?_) ?_
            · go_simp
              refine hK.out _ _ ?_ (fun hHeld => ?_)
              · (try dsimp only); (first | exact S0.out | exact S1.out | exact S2.out | exact S3.out | exact S4.out | exact S5.out | exact S6.out | exact S7.out | exact S8.out | exact S9.out | exact S10.out | exact S11.out | exact S12.out | exact S13.out | exact S14.out)
              clear hK K
              (try simp only [Act.put, List.setIfInBounds_toArray, List.set_cons_zero, List.set_cons_succ])
              refine wpAnyH_take (i := 10) (v := ?_) rfl (by kernel_rfl) (by kernel_rfl) (by kernel_rfl) (fun _ _ _ h => h) (Or.inl ⟨by rfl, ?_⟩) (by assumption) ?_
              rotate_left
              · (intro w hSw; (try dsimp only at hSw); go_simp <;> with_reducible rfl)
              (try simp only [Act.put, List.setIfInBounds_toArray, List.set_cons_zero, List.set_cons_succ])
              refine wpAnyH_take (i := 11) (v := ?_) rfl (by kernel_rfl) (by kernel_rfl) (by kernel_rfl) (fun _ _ _ h => h) (Or.inl ⟨by rfl, ?_⟩) (by assumption) ?_
              rotate_left
              · (intro w hSw; (try dsimp only at hSw); go_simp <;> with_reducible rfl)
              (try simp only [Act.put, List.setIfInBounds_toArray, List.set_cons_zero, List.set_cons_succ])
              refine wpAnyH_ready (rs := [12]) (by kernel_rfl) (by simp) ?_
              refine AllReadyH.cons rfl (fun K hK => ?_) ?_
              · go_simp
                refine hK.out _ _ ?_ (fun hHeld => ?_)
                · (try dsimp only); (first | exact S0.out | exact S1.out | exact S2.out | exact S3.out | exact S4.out | exact S5.out | exact S6.out | exact S7.out | exact S8.out | exact S9.out | exact S10.out | exact S11.out | exact S12.out | exact S13.out | exact S14.out)
                clear hK K
                (try simp only [Act.put, List.setIfInBounds_toArray, List.set_cons_zero, List.set_cons_succ])
                refine wpAnyH_done (by kernel_rfl) ?_ _
                go_wp2_with fail
                go_meet
                (first | exact ⟨_, _, _, rfl, HTA.out⟩ | exact ⟨_, _, _, rfl, HTB.out⟩ | exact ⟨_, _, _, rfl, HTC.out⟩)
              exact AllReadyH.nil
            exact AllReadyH.nil
          exact AllReadyH.nil
        exact AllReadyH.nil
      refine AllReadyH.cons rfl (fun K hK => ?_) ?_
      · go_simp
        refine hK.out _ _ ?_ (fun hHeld => ?_)
        · (try dsimp only); (first | exact S0.out | exact S1.out | exact S2.out | exact S3.out | exact S4.out | exact S5.out | exact S6.out | exact S7.out | exact S8.out | exact S9.out | exact S10.out | exact S11.out | exact S12.out | exact S13.out | exact S14.out)
        clear hK K
        (try simp only [Act.put, List.setIfInBounds_toArray, List.set_cons_zero, List.set_cons_succ])
        refine wpAnyH_ready (rs := [1]) (by kernel_rfl) (by simp) ?_
        refine AllReadyH.cons rfl (fun K hK => ?_) ?_
        · go_simp
          refine hK.out _ _ ?_ (fun hHeld => ?_)
          · (try dsimp only); (first | exact S0.out | exact S1.out | exact S2.out | exact S3.out | exact S4.out | exact S5.out | exact S6.out | exact S7.out | exact S8.out | exact S9.out | exact S10.out | exact S11.out | exact S12.out | exact S13.out | exact S14.out)
          clear hK K
          (try simp only [Act.put, List.setIfInBounds_toArray, List.set_cons_zero, List.set_cons_succ])
          refine wpAnyH_ready (rs := [6]) (by kernel_rfl) (by simp) ?_
          refine AllReadyH.cons rfl (fun K hK => ?_) ?_
          · go_simp
            refine hK.out _ _ ?_ (fun hHeld => ?_)
            · (try dsimp only); (first | exact S0.out | exact S1.out | exact S2.out | exact S3.out | exact S4.out | exact S5.out | exact S6.out | exact S7.out | exact S8.out | exact S9.out | exact S10.out | exact S11.out | exact S12.out | exact S13.out | exact S14.out)
            clear hK K
            (try simp only [Act.put, List.setIfInBounds_toArray, List.set_cons_zero, List.set_cons_succ])
            refine wpAnyH_ready (rs := [9]) (by kernel_rfl) (by simp) ?_
            refine AllReadyH.cons rfl (fun K hK => ?_) ?_
            · go_simp
              refine hK.out _ _ ?_ (fun hHeld => ?_)
              · (try dsimp only); (first | exact S0.out | exact S1.out | exact S2.out | exact S3.out | exact S4.out | exact S5.out | exact S6.out | exact S7.out | exact S8.out | exact S9.out | exact S10.out | exact S11.out | exact S12.out | exact S13.out | exact S14.out)
              clear hK K
              (try simp only [Act.put, List.setIfInBounds_toArray, List.set_cons_zero, List.set_cons_succ])
              refine wpAnyH_take (i := 10) (v := ?_) rfl (by kernel_rfl) (by kernel_rfl) (by kernel_rfl) (fun _ _ _ h => h) (Or.inl ⟨by rfl, ?_⟩) (by assumption) ?_
              rotate_left
              · (intro w hSw; (try dsimp only at hSw); go_simp <;> with_reducible rfl)
              (try simp only [Act.put, List.setIfInBounds_toArray, List.set_cons_zero, List.set_cons_succ])
              refine wpAnyH_take (i := 11) (v := ?_) rfl (by kernel_rfl) (by kernel_rfl) (by kernel_rfl) (fun _ _ _ h => h) (Or.inl ⟨by rfl, ?_⟩) (by assumption) ?_
              rotate_left
              · (intro w hSw; (try dsimp only at hSw); go_simp <;> with_reducible rfl)
              (try simp only [Act.put, List.setIfInBounds_toArray, List.set_cons_zero, List.set_cons_succ])
              refine wpAnyH_ready (rs := [12]) (by kernel_rfl) (by simp) ?_
              refine AllReadyH.cons rfl (fun K hK => ?_) ?_
              · go_simp
                refine hK.out _ _ ?_ (fun hHeld => ?_)
                · (try dsimp only); (first | exact S0.out | exact S1.out | exact S2.out | exact S3.out | exact S4.out | exact S5.out | exact S6.out | exact S7.out | exact S8.out | exact S9.out | exact S10.out | exact S11.out | exact S12.out | exact S13.out | exact S14.out)
                clear hK K
                (try simp only [Act.put, List.setIfInBounds_toArray, List.set_cons_zero, List.set_cons_succ])
                refine wpAnyH_done (by kernel_rfl) ?_ _
                go_wp2_with fail
                go_meet
                (first | exact ⟨_, _, _, rfl, HTA.out⟩ | exact ⟨_, _, _, rfl, HTB.out⟩ | exact ⟨_, _, _, rfl, HTC.out⟩)
              exact AllReadyH.nil
            exact AllReadyH.nil
          exact AllReadyH.nil
        exact AllReadyH.nil
      exact AllReadyH.nil
    refine AllReadyH.cons rfl (fun K hK => ?_) ?_
    · go_simp
      refine hK.out _ _ ?_ (fun hHeld => ?_)
      · (try dsimp only); (first | exact S0.out | exact S1.out | exact S2.out | exact S3.out | exact S4.out | exact S5.out | exact S6.out | exact S7.out | exact S8.out | exact S9.out | exact S10.out | exact S11.out | exact S12.out | exact S13.out | exact S14.out)
      clear hK K
      (try simp only [Act.put, List.setIfInBounds_toArray, List.set_cons_zero, List.set_cons_succ])
      refine wpAnyH_ready (rs := [1, 5]) (by kernel_rfl) (by simp) ?_
      refine AllReadyH.cons rfl (fun K hK => ?_) ?_
      · go_simp
        refine hK.out _ _ ?_ (fun hHeld => ?_)
        · (try dsimp only); (first | exact S0.out | exact S1.out | exact S2.out | exact S3.out | exact S4.out | exact S5.out | exact S6.out | exact S7.out | exact S8.out | exact S9.out | exact S10.out | exact S11.out | exact S12.out | exact S13.out | exact S14.out)
        clear hK K
        (try simp only [Act.put, List.setIfInBounds_toArray, List.set_cons_zero, List.set_cons_succ])
        refine wpAnyH_ready (rs := [5]) (by kernel_rfl) (by simp) ?_
        refine AllReadyH.cons rfl (fun K hK => ?_) ?_
        · go_simp
          refine hK.out _ _ ?_ (fun hHeld => ?_)
          · (try dsimp only); (first | exact S0.out | exact S1.out | exact S2.out | exact S3.out | exact S4.out | exact S5.out | exact S6.out | exact S7.out | exact S8.out | exact S9.out | exact S10.out | exact S11.out | exact S12.out | exact S13.out | exact S14.out)
          clear hK K
          (try simp only [Act.put, List.setIfInBounds_toArray, List.set_cons_zero, List.set_cons_succ])
          refine wpAnyH_ready (rs := [6]) (by kernel_rfl) (by simp) ?_
          refine AllReadyH.cons rfl (fun K hK => ?_) ?_
          · go_simp
            refine hK.out _ _ ?_ (fun hHeld => ?_)
            · (try dsimp only); (first | exact S0.out | exact S1.out | exact S2.out | exact S3.out | exact S4.out | exact S5.out | exact S6.out | exact S7.out | exact S8.out | exact S9.out | exact S10.out | exact S11.out | exact S12.out | exact S13.out | exact S14.out)
            clear hK K
            (try simp only [Act.put, List.setIfInBounds_toArray, List.set_cons_zero, List.set_cons_succ])
            refine wpAnyH_ready (rs := [9]) (by kernel_rfl) (by simp) ?_
            refine AllReadyH.cons rfl (fun K hK => ?_) ?_
            · go_simp
              refine hK.out _ _ ?_ (fun hHeld => ?_)
              · (try dsimp only); (first | exact S0.out | exact S1.out | exact S2.out | exact S3.out | exact S4.out | exact S5.out | exact S6.out | exact S7.out | exact S8.out | exact S9.out | exact S10.out | exact S11.out | exact S12.out | exact S13.out | exact S14.out)
              clear hK K
              (try simp only [Act.put, List.setIfInBounds_toArray, List.set_cons_zero, List.set_cons_succ])
              refine wpAnyH_take (i := 10) (v := ?_) rfl (by kernel_rfl) (by kernel_rfl) (by kernel_rfl) (fun _ _ _ h => h) (Or.inl ⟨by rfl, ?_⟩) (by assumption) ?_
              rotate_left
              · (intro w hSw; (try dsimp only at hSw); go_simp <;> with_reducible rfl)
              (try simp only [Act.put, List.setIfInBounds_toArray, List.set_cons_zero, List.set_cons_succ])
              refine wpAnyH_take (i := 11) (v := ?_) rfl (by kernel_rfl) (by kernel_rfl) (by kernel_rfl) (fun _ _ _ h => h) (Or.inl ⟨by rfl, ?_⟩) (by assumption) ?_
              rotate_left
              · (intro w hSw; (try dsimp only at hSw); go_simp <;> with_reducible rfl)
              (try simp only [Act.put, List.setIfInBounds_toArray, List.set_cons_zero, List.set_cons_succ])
              refine wpAnyH_ready (rs := [12]) (by kernel_rfl) (by simp) ?_
              refine AllReadyH.cons rfl (fun K hK => ?_) ?_
              · go_simp
                refine hK.out _ _ ?_ (fun hHeld => ?_)
                · (try dsimp only); (first | exact S0.out | exact S1.out | exact S2.out | exact S3.out | exact S4.out | exact S5.out | exact S6.out | exact S7.out | exact S8.out | exact S9.out | exact S10.out | exact S11.out | exact S12.out | exact S13.out | exact S14.out)
                clear hK K
                (try simp only [Act.put, List.setIfInBounds_toArray, List.set_cons_zero, List.set_cons_succ])
                refine wpAnyH_done (by kernel_rfl) ?_ _
                go_wp2_with fail
                go_meet
                (first | exact ⟨_, _, _, rfl, HTA.out⟩ | exact ⟨_, _, _, rfl, HTB.out⟩ | exact ⟨_, _, _, rfl, HTC.out⟩)
              exact AllReadyH.nil
            exact AllReadyH.nil
          exact AllReadyH.nil
        exact AllReadyH.nil
      refine AllReadyH.cons rfl (fun K hK => ?_) ?_
      · go_simp
        refine hK.out _ _ ?_ (fun hHeld => ?_)
        · (try dsimp only); (first | exact S0.out | exact S1.out | exact S2.out | exact S3.out | exact S4.out | exact S5.out | exact S6.out | exact S7.out | exact S8.out | exact S9.out | exact S10.out | exact S11.out | exact S12.out | exact S13.out | exact S14.out)
        clear hK K
        (try simp only [Act.put, List.setIfInBounds_toArray, List.set_cons_zero, List.set_cons_succ])
        refine wpAnyH_ready (rs := [1]) (by kernel_rfl) (by simp) ?_
        refine AllReadyH.cons rfl (fun K hK => ?_) ?_
        · go_simp
          refine hK.out _ _ ?_ (fun hHeld => ?_)
          · (try dsimp only); (first | exact S0.out | exact S1.out | exact S2.out | exact S3.out | exact S4.out | exact S5.out | exact S6.out | exact S7.out | exact S8.out | exact S9.out | exact S10.out | exact S11.out | exact S12.out | exact S13.out | exact S14.out)
          clear hK K
          (try simp only [Act.put, List.setIfInBounds_toArray, List.set_cons_zero, List.set_cons_succ])
          refine wpAnyH_ready (rs := [6]) (by kernel_rfl) (by simp) ?_
          refine AllReadyH.cons rfl (fun K hK => ?_) ?_
          · go_simp
            refine hK.out _ _ ?_ (fun hHeld => ?_)
            · (try dsimp only); (first | exact S0.out | exact S1.out | exact S2.out | exact S3.out | exact S4.out | exact S5.out | exact S6.out | exact S7.out | exact S8.out | exact S9.out | exact S10.out | exact S11.out | exact S12.out | exact S13.out | exact S14.out)
            clear hK K
            (try simp only [Act.put, List.setIfInBounds_toArray, List.set_cons_zero, List.set_cons_succ])
            refine wpAnyH_ready (rs := [9]) (by kernel_rfl) (by simp) ?_
            refine AllReadyH.cons rfl (fun K hK => ?_) ?_
            · go_simp
              refine hK.out _ _ ?_ (fun hHeld => ?_)
              · (try dsimp only); (first | exact S0.out | exact S1.out | exact S2.out | exact S3.out | exact S4.out | exact S5.out | exact S6.out | exact S7.out | exact S8.out | exact S9.out | exact S10.out | exact S11.out | exact S12.out | exact S13.out | exact S14.out)
              clear hK K
              (try simp only [Act.put, List.setIfInBounds_toArray, List.set_cons_zero, List.set_cons_succ])
              refine wpAnyH_take (i := 10) (v := ?_) rfl (by kernel_rfl) (by kernel_rfl) (by kernel_rfl) (fun _ _ _ h => h) (Or.inl ⟨by rfl, ?_⟩) (by assumption) ?_
              rotate_left
              · (intro w hSw; (try dsimp only at hSw); go_simp <;> with_reducible rfl)
              (try simp only [Act.put, List.setIfInBounds_toArray, List.set_cons_zero, List.set_cons_succ])
              refine wpAnyH_take (i := 11) (v := ?_) rfl (by kernel_rfl) (by kernel_rfl) (by kernel_rfl) (fun _ _ _ h => h) (Or.inl ⟨by rfl, ?_⟩) (by assumption) ?_
              rotate_left
              · (intro w hSw; (try dsimp only at hSw); go_simp <;> with_reducible rfl)
              (try simp only [Act.put, List.setIfInBounds_toArray, List.set_cons_zero, List.set_cons_succ])
              refine wpAnyH_ready (rs := [12]) (by kernel_rfl) (by simp) ?_
              refine AllReadyH.cons rfl (fun K hK => ?_) ?_
              · go_simp
                refine hK.out _ _ ?_ (fun hHeld => ?_)
                · (try dsimp only); (first | exact S0.out | exact S1.out | exact S2.out | exact S3.out | exact S4.out | exact S5.out | exact S6.out | exact S7.out | exact S8.out | exact S9.out | exact S10.out | exact S11.out | exact S12.out | exact S13.out | exact S14.out)
                clear hK K
                (try simp only [Act.put, List.setIfInBounds_toArray, List.set_cons_zero, List.set_cons_succ])
                refine wpAnyH_done (by kernel_rfl) ?_ _
                go_wp2_with fail
                go_meet
                (first | exact ⟨_, _, _, rfl, HTA.out⟩ | exact ⟨_, _, _, rfl, HTB.out⟩ | exact ⟨_, _, _, rfl, HTC.out⟩)
              exact AllReadyH.nil
            exact AllReadyH.nil
          exact AllReadyH.nil
        exact AllReadyH.nil
      exact AllReadyH.nil
    exact AllReadyH.nil
  case rest =>
  obtain ⟨g, c, W, hwz, hT⟩ := hcut
  have HT := Lib.hid hT
  have HWz := Lib.hid hwz
  clear hT hwz k0 k1 k2 k3 k4 k5 k6 k7 f5 f6 f7 ea1 ea2 eb1 eb2 ec1 ec2
  go_wp2_with fail
  go_ret
  have hT := HT.out
  have hlt := H1.out.lt
  have hgr : g ≠ rp := by have := hT.le; omega
  have hbk := HB5.out.trans (hT.below.mono HB5.out.size)
  rw [HWz.out]
  refine ⟨rfl, g :: F, ⟨⟨_, (H1.out.below hT.below).set 1 (.slice (some ⟨g, 0, none⟩) (log.length + 1) c), .inr ⟨g, c, by simp, by rw [HNr.out]; exact hT.recs.other (a := ⟨rp, 1, none⟩) hgr _⟩, fun g' hg' => ?_⟩, List.mem_cons_of_mem _ HQ.out.ins, fun x hx => ?_, by rw [List.length_append, List.length_singleton]; omega⟩, (Kept.of_below hbk F).setCell (p := ⟨rp, 1, none⟩) (.inl HQ.out.ins) _, fun x hx => ?_⟩
  · have hg' : some g = some g' := hg'
    injection hg' with hg'
    subst hg'
    exact ⟨List.mem_cons_self, hgr⟩
  · have hz : (W.setCell ⟨rp, 1, none⟩ (.slice (some ⟨g, 0, none⟩) (log.length + 1) c)).heap.size = W.heap.size := by simp
    rw [hz]
    rcases List.mem_cons.1 hx with rfl | hx
    · exact hT.recs.lt
    · have := HQ.out.flt x hx
      have := hbk.size
      omega
  · rcases List.mem_cons.1 hx with rfl | hx
    · exact .inr (Nat.le_trans HB5.out.size hT.le)
    · exact .inl hx
theorem rsend_calls (w : World) (rp : Nat) (F : List Nat) (n : Nat) (log : List RRow) (f t a : Int) (h : RefQ w rp F n log) (hlen : log.length < 100000) :
    Calls Try.prog 84 #[.pointer (some ⟨rp, 0, none⟩), .int .i64 f, .int .i64 t, .int .i64 a] w fun e w' => e = .returned (.int .i64 (rsendC n log f t a)) ∧ RWrote rp F n (rsendL n log f t a) w w' := by
  unfold rsendL
  by_cases hc : rsendC n log f t a = 0
  · rw [if_pos hc, hc]
    exact rsend_yes w rp F n log f t a h hc hlen
  · rw [if_neg hc]
    refine (rsend_no w rp F n log f t a h hc).mono ?_
    rintro e w' ⟨he, rfl⟩
    exact ⟨he, rwrote_same h (Below.refl _ _)⟩
end Go.Proofs.Ytchnhmcedmicgaa.Rem
