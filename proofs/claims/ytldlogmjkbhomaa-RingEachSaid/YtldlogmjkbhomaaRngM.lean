/- The contracts of package ring's New and Clone. -/
import Derived.Test.YtldlogmjkbhomaaRngN
namespace Go.Proofs.Ytldlogmjkbhomaa.Rng
open Go.RowKit Go.Proofs.Ytldlogmjkbhomaa.Aid
theorem itemsL_none (N L : Nat) : itemsL (fun _ => []) L N = List.replicate N ⟨-1, -1, -1⟩ := by
  refine List.ext_getElem? fun i => ?_
  rw [List.getElem?_replicate]
  split
  · next h =>
    rw [itemsL_at _ _ h, lk_none]
    simp
  · next h => exact List.getElem?_eq_none (by rw [itemsL_len]; omega)
theorem endsL_none (L : Nat) : endsL (fun _ => []) L = List.replicate L ⟨-1, -1, 0⟩ := by
  refine List.ext_getElem? fun i => ?_
  rw [List.getElem?_replicate]
  split
  · next h =>
    rw [endsL_at _ h]
    rfl
  · next h => exact List.getElem?_eq_none (by rw [endsL_len]; omega)
theorem ok_none {N L : Nat} (h1 : N ≤ 4096) (h2 : 1 ≤ L) (h3 : L ≤ 256) : OkG N L (fun _ => []) :=
  ⟨h1, h2, h3, fun _ => List.nodup_nil, fun _ _ _ h => (by cases h), fun _ _ h => (by cases h), fun _ _ => rfl⟩
set_option maxHeartbeats 1000000 in
theorem new_yes (w : World) (N L : Nat) (h1 : N ≤ 4096) (h2 : 1 ≤ L) (h3 : L ≤ 256) :
    Calls Try.prog 30 #[.int .i64 N, .int .i64 L] w fun e w' => ∃ p F, e = .returned (.tuple #[.pointer (some ⟨p, 0, none⟩), .int .i64 0]) ∧ RngAt w' p F N L (fun _ => []) ∧ (∀ x ∈ F, w.heap.size ≤ x) ∧ Below w.heap.size w w' := by
  have g1 : ¬ (N : Int) < 0 := by omega
  have g2 : ¬ (4096 : Int) < N := by omega
  have g3 : ¬ (L : Int) < 1 := by omega
  have g4 : ¬ (256 : Int) < L := by omega
  have HL := Lib.hid (fun W : World => repeat_link ((W : World).alloc (.cells #[.int .i64 (-1), .int .i64 (-1), .int .i64 (-1)] KT)) W.heap.size N ⟨-1, -1, -1⟩ h1 (Blk.new _ _ _))
  have HE := Lib.hid (fun W : World => repeat_ends ((W : World).alloc (.cells #[.int .i64 (-1), .int .i64 (-1), .int .i64 0] NT)) W.heap.size L ⟨-1, -1, 0⟩ (by omega) (Blk.new _ _ _))
  have HN := Lib.hid (And.intro h1 (And.intro h2 h3))
  clear h1 h2 h3
  go_enter Try.func30, Try.ntmps30
  go_wp2_with fail
  refine (HL.out w).mono ?_
  rintro e w1 ⟨gi, rfl, hr1, hl1, hb1⟩
  have HX1 := Lib.hid (And.intro hr1 (And.intro hl1 hb1))
  clear hr1 hl1 hb1
  go_wp2_with fail
  refine (HE.out w1).mono ?_
  rintro e w2 ⟨gl, rfl, hr2, hl2, hb2⟩
  have HX2 := Lib.hid (And.intro hr2 (And.intro hl2 hb2))
  clear hr2 hl2 hb2
  go_wp2
  go_ret2
  obtain ⟨hr1, hl1, hb1⟩ := HX1.out
  obtain ⟨hr2, hl2, hb2⟩ := HX2.out
  obtain ⟨h1, h2, h3⟩ := HN.out
  have z1 : (w.alloc (.cells #[.int .i64 (-1), .int .i64 (-1), .int .i64 (-1)] KT)).heap.size = w.heap.size + 1 := by simp
  have z2 : (w1.alloc (.cells #[.int .i64 (-1), .int .i64 (-1), .int .i64 0] NT)).heap.size = w1.heap.size + 1 := by simp
  rw [z1] at hl1 hb1
  rw [z2] at hl2 hb2
  have b1 : Below w.heap.size w w1 := ((Below.refl w.heap.size w).alloc (Nat.le_refl _) _).trans (hb1.mono (by omega))
  have b2 : Below w1.heap.size w1 w2 := ((Below.refl w1.heap.size w1).alloc (Nat.le_refl _) _).trans (hb2.mono (by omega))
  have i1 := hr1.lt
  have i2 := hr2.lt
  have s1 := b1.size
  have s2 := b2.size
  have b12 : Below w.heap.size w w2 := b1.trans (b2.mono s1)
  refine ⟨w2.heap.size, [w2.heap.size, gi, gl], rfl, ⟨ok_none h1 h2 h3, some ⟨gi, 0, none⟩, gi, N, gl, L, ⟨Blk.new w2 _ RT, fun _ => ⟨rfl, ?_, by simp, by omega, by omega⟩, ?_, by simp, by omega, ?_⟩⟩, ?_, b12.alloc (by omega) _⟩
  · rw [itemsL_none]; exact ((hr1.below b2).alloc _)
  · rw [endsL_none]; exact (hr2.alloc _)
  · intro x hx
    simp at hx ⊢
    omega
  · intro x hx
    simp at hx
    omega
theorem new_no (w : World) (N L : Int) (h : N < 0 ∨ 4096 < N ∨ L < 1 ∨ 256 < L) :
    Calls Try.prog 30 #[.int .i64 N, .int .i64 L] w fun e w' => e = .returned (.tuple #[.pointer none, .int .i64 11]) ∧ w = w' := by
  by_cases h0 : N < 0
  · clear h
    go_enter Try.func30, Try.ntmps30
    go_wp2
    go_ret2
    exact ⟨rfl, rfl⟩
  · by_cases h1 : 4096 < N
    · clear h
      go_enter Try.func30, Try.ntmps30
      go_wp2
      go_ret2
      exact ⟨rfl, rfl⟩
    · by_cases h2 : L < 1
      · clear h
        go_enter Try.func30, Try.ntmps30
        go_wp2
        go_ret2
        exact ⟨rfl, rfl⟩
      · have h3 : 256 < L := by omega
        clear h
        go_enter Try.func30, Try.ntmps30
        go_wp2
        go_ret2
        exact ⟨rfl, rfl⟩
attribute [-go_sem] Builtin.append_ in
theorem sclone_link (w : World) (g c : Nat) (xs : List R3) (hR : Recs enc3 3 w KT g c xs) (hl : xs.length ≤ 1000000) :
    Calls Try.prog 76 #[.slice (some ⟨g, 0, none⟩) xs.length c] w fun e w' => ∃ g' c', e = .returned (.slice (some ⟨g', 0, none⟩) xs.length c') ∧ Recs enc3 3 w' KT g' c' xs ∧ w.heap.size ≤ g' ∧ Below w.heap.size w w' := by
  obtain ⟨g', c', w', e1, hR', hg', hb⟩ := append_recs_run (P := Try.prog) (W := w) 128 128 KT _ 24 Try.underlying128 info_link rfl (by decide) enc3_len enc3_one hR hl (by decide)
  have HR := Lib.hid (And.intro hR' (And.intro hg' hb))
  clear hR hR' hg' hb hl
  have hq := fun w => Go.Lib.run_eql_slice_nil (P := Try.prog) w 128 KT (some ⟨g, 0, none⟩) xs.length c 0 0 Try.underlying128
  go_enter Try.func76, Try.ntmps76
  go_wp2
  go_ret
  exact ⟨g', c', rfl, HR.out⟩
attribute [-go_sem] Builtin.append_ in
theorem sclone_ends (w : World) (g c : Nat) (xs : List R3) (hR : Recs enc3 3 w NT g c xs) (hl : xs.length ≤ 1000000) :
    Calls Try.prog 77 #[.slice (some ⟨g, 0, none⟩) xs.length c] w fun e w' => ∃ g' c', e = .returned (.slice (some ⟨g', 0, none⟩) xs.length c') ∧ Recs enc3 3 w' NT g' c' xs ∧ w.heap.size ≤ g' ∧ Below w.heap.size w w' := by
  obtain ⟨g', c', w', e1, hR', hg', hb⟩ := append_recs_run (P := Try.prog) (W := w) 132 132 NT _ 24 Try.underlying132 info_ends rfl (by decide) enc3_len enc3_one hR hl (by decide)
  have HR := Lib.hid (And.intro hR' (And.intro hg' hb))
  clear hR hR' hg' hb hl
  have hq := fun w => Go.Lib.run_eql_slice_nil (P := Try.prog) w 132 NT (some ⟨g, 0, none⟩) xs.length c 0 0 Try.underlying132
  go_enter Try.func77, Try.ntmps77
  go_wp2
  go_ret
  exact ⟨g', c', rfl, HR.out⟩
set_option maxRecDepth 8000 in
set_option maxHeartbeats 8000000 in
theorem clone_calls (w : World) (p : Nat) (F : List Nat) (N L : Nat) (s : RgS) (h : RngAt w p F N L s) :
    Calls Try.prog 42 #[.pointer (some ⟨p, 0, none⟩)] w fun e w' => ∃ p', e = .returned (.pointer (some ⟨p', 0, none⟩)) ∧ ∃ F', RngAt w' p' F' N L s ∧ (∀ x ∈ F', w.heap.size ≤ x) ∧ Below w.heap.size w w' := by
  obtain ⟨A, gi, ci, gl, cl, hP⟩ := h.ex
  obtain ⟨rfl, hRi, _⟩ := hP.items (Nat.zero_le _)
  have hN := h.ok.n
  have hL := h.ok.l2
  have HOk := Lib.hid h.ok
  have HS := Lib.hid (fun (W : World) (hb : Below w.heap.size w W) => (show W.cell? ⟨p, 0, none⟩ = some (.slice (some ⟨gi, 0, none⟩) N ci) ∧ W.cell? ⟨p, 1, none⟩ = some (.slice (some ⟨gl, 0, none⟩) L cl) from by
    have hh := hP.head.below hb
    exact ⟨hh.cell (o := 0) rfl, hh.cell (o := 1) rfl⟩))
  have HC1 := Lib.hid (fun (W : World) (hb : Below w.heap.size w W) => (show Calls Try.prog 76 #[.slice (some ⟨gi, 0, none⟩) N ci] W fun e w' => ∃ g' c', e = .returned (.slice (some ⟨g', 0, none⟩) N c') ∧ Recs enc3 3 w' KT g' c' (itemsL s L N) ∧ W.heap.size ≤ g' ∧ Below W.heap.size W w' ∧ Below w.heap.size w w' from by
    have := sclone_link W gi ci _ (hRi.below hb) (by rw [itemsL_len]; omega)
    rw [itemsL_len] at this
    exact Calls.mono this fun e w' ⟨g', c', h1, h2, h3, h4⟩ => ⟨g', c', h1, h2, h3, h4, hb.trans (h4.mono hb.size)⟩))
  have HC2 := Lib.hid (fun (W : World) (hb : Below w.heap.size w W) => (show Calls Try.prog 77 #[.slice (some ⟨gl, 0, none⟩) L cl] W fun e w' => ∃ g' c', e = .returned (.slice (some ⟨g', 0, none⟩) L c') ∧ Recs enc3 3 w' NT g' c' (endsL s L) ∧ W.heap.size ≤ g' ∧ Below W.heap.size W w' ∧ Below w.heap.size w w' from by
    have := sclone_ends W gl cl _ (hP.ends.below hb) (by rw [endsL_len]; omega)
    rw [endsL_len] at this
    exact Calls.mono this fun e w' ⟨g', c', h1, h2, h3, h4⟩ => ⟨g', c', h1, h2, h3, h4, hb.trans (h4.mono hb.size)⟩))
  have b0 := Lib.hid (Below.refl w.heap.size w).drew
  have BA := Lib.hid (fun (W : World) (o : Obj) (hb : Below w.heap.size w W) => hb.alloc hb.size o)
  clear h hP hRi hN hL
  go_enter Try.func42, Try.ntmps42
  go_upto_region 1 with fail
  go_cut [2] (fun v wc => ∃ p', v = .pointer (some ⟨p', 0, none⟩) ∧ ∃ F', RngAt wc p' F' N L s ∧ (∀ x ∈ F', w.heap.size ≤ x) ∧ Below w.heap.size w wc)
  case first =>
    go_region_held3 (fun w' => w'.cell? ⟨p, 0, none⟩ = some (.slice (some ⟨gi, 0, none⟩) N ci) ∧ w'.cell? ⟨p, 1, none⟩ = some (.slice (some ⟨gl, 0, none⟩) L cl))
      (first | exact HS.out _ b0.out | exact HS.out _ HB1.out | exact HS.out _ HB2.out | exact HS.out _ (BA.out _ _ HB1.out) | exact HS.out _ (BA.out _ _ HB2.out))
      ((first
        | (go_at_call 76; (refine (Calls.mono (HC1.out _ (by first | exact b0.out | exact HB2.out)) ?_)); rintro e w2 ⟨g1, c1, rfl, hR1, hg1, hb1, hd1⟩; have HB1 := Lib.hid hd1)
        | (go_at_call 77; (refine (Calls.mono (HC2.out _ (by first | exact b0.out | exact HB1.out)) ?_)); rintro e w2 ⟨g2, c2, rfl, hR2, hg2, hb2, hd2⟩; have HB2 := Lib.hid hd2)))
    all_goals
      go_wp2_with fail
      go_meet
      have i1 := hR1.lt
      have i2 := hR2.lt
      have s1 := hd1.size
      have s2 := hb2.size
      have s3 : w.drew.heap.size = w.heap.size := rfl
      refine ⟨w2.heap.size, rfl, [w2.heap.size, g1, g2], ⟨HOk.out, some ⟨g1, 0, none⟩, g1, c1, g2, c2, ⟨Blk.new w2 _ RT, fun _ => ⟨rfl, (hR1.below hb2).alloc _, by simp, by omega, by omega⟩, hR2.alloc _, by simp, by omega, ?_⟩⟩, ?_, hd2.alloc hd2.size _⟩
      · intro x hx
        simp at hx ⊢
        omega
      · intro x hx
        simp at hx
        omega
  case rest =>
  obtain ⟨p', rfl, F', h1, h2, h3⟩ := hcut
  go_wp2_with fail
  go_ret
  exact ⟨p', rfl, F', h1, h2, h3⟩
end Go.Proofs.Ytldlogmjkbhomaa.Rng
