/- The contracts of package underpinref08's Runs, Place and underpinref05's Align. -/
import Derived.Test.YtldlogmjkbhomaaSpaX
set_option linter.unusedSimpArgs false
namespace Go.Proofs.Ytldlogmjkbhomaa.Spa
open Go.RowKit Go.Proofs.Ytldlogmjkbhomaa.Aid
section
variable (w : World) (q : Nat) (G : List Nat) (P : Nat) (xs : List Rn) (h : RfAt w q G P xs)
include h
set_option maxHeartbeats 4000000 in
attribute [-go_sem] Builtin.append_ in
theorem rruns_calls : Calls Try.prog 50 #[.pointer (some ⟨q, 0, none⟩)] w fun e w' => ∃ hd, e = .returned hd ∧ ∃ g c, hd = .slice (some ⟨g, 0, none⟩) xs.length c ∧ Recs encR 3 w' RT2 g c xs ∧ w.heap.size ≤ g ∧ Below w.heap.size w w' := by
  obtain ⟨pb, hP⟩ := h.ex
  have hP4 := h.ok.n
  have HOk := Lib.hid h.ok
  have HL := Lib.hid (len_le h.ok)
  have HH := Lib.hid (fun W (hb : Below w.heap.size w W) => (show W.cell? ⟨q, 0, none⟩ = some (.slice (some ⟨pb, 0, none⟩) P P) from (hP.head.below hb).cell (o := 0) rfl))
  have HV := Lib.hid (fun W (hb : Below w.heap.size w W) i v (hv : (pagesOf xs)[i]? = some v) => row_at (hP.row.below hb) hv)
  have hb0 := (Below.refl w.heap.size w).alloc (Nat.le_refl _) (.cells #[] RT2)
  have hR0 : Recs encR 3 (w.alloc (.cells #[] RT2)) RT2 w.heap.size 0 [] := ⟨⟨#[], Blk.new w #[] _, rfl, rfl⟩, Nat.le_refl _, Nat.zero_le _⟩
  have H0 := Lib.hid (And.intro hb0 hR0)
  have hz0 := World.size_alloc w (.cells #[] RT2)
  clear h hP hb0 hR0 hz0
  go_enter Try.func50, Try.ntmps50
  go_wp2_with fail
  go_loopw [3, 4] (fun s a wr => ∃ (i : Nat) (ys : List Rn) (g c : Nat), a = .int .i64 i ∧ i ≤ P ∧ s = .slice (some ⟨g, 0, none⟩) ys.length c ∧ Part xs i ys ∧ Recs encR 3 wr RT2 g c ys ∧ w.heap.size ≤ g ∧ Below w.heap.size w wr) (fun _ a _ => P - (intOf a).toNat)
  case atStart => exact ⟨0, [], w.heap.size, 0, rfl, by omega, rfl, .inl ⟨rfl, rfl⟩, H0.out.2, Nat.le_refl _, H0.out.1⟩
  case round =>
    obtain ⟨i, ys, g, c, rfl, hi, rfl, hp, hR, hg, hb⟩ := hrel
    have HB := Lib.hid (And.intro hb (And.intro hR hg))
    have hyl := part_len HOk.out hp
    have HP := Lib.hid hp
    have c0 := HH.out wr hb
    clear hb hR hg H0 hp
    by_cases hlt : i < P
    · obtain ⟨v, hv, v0, v1, hst⟩ := part_step HOk.out HP.out hlt
      have cv := HV.out wr HB.out.1 i v hv
      have hi0 : (0 : Int) ≤ (i : Int) := by omega
      have hi1 : (i : Int) < (P : Int) := by omega
      rcases hst with ⟨A, r, hi2, hu, hys, hrn, hpp⟩ | ⟨hne, hpp⟩
      · have cu := HV.out wr HB.out.1 (i - 1) v hu
        have hi3 : (0 : Int) < (i : Int) := by omega
        have hi4 : (0 : Int) ≤ (i : Int) - 1 := by omega
        have hi5 : ((i : Int) - 1).toNat = i - 1 := by omega
        have hi6 : (i : Int) - 1 < (P : Int) := by omega
        have HPP := Lib.hid hpp
        subst hys
        obtain ⟨L, hL⟩ : ∃ L, L = A.length := ⟨_, rfl⟩
        have hAL : (A ++ [r]).length = L + 1 := by simp [hL]
        have hat : (A ++ [r])[L]? = some r := by rw [hL]; simp
        have hset : (A ++ [r]).set L ⟨r.p, r.n + 1, r.t⟩ = A ++ [⟨r.p, r.n + 1, r.t⟩] := by rw [hL]; simp
        have hlen2 : (A ++ [(⟨r.p, r.n + 1, r.t⟩ : Rn)]).length = L + 1 := by simp [hL]
        rw [hAL] at hyl ⊢
        have HS := Lib.hid (And.intro hat (And.intro hset hlen2))
        clear hv hu hpp hAL hat hset hlen2 hL
        have hL0 : (0 : Int) ≤ (L : Int) := by omega
        have hwl : IntKind.i64.wrap (((L + 1 : Nat) : Int) - 1) = (L : Int) := by rw [i64_wrap]; unfold wrap64; omega
        have hwl2 : ((L : Int) + 1 - 1) = (L : Int) := by omega
        have hL1 : (L : Int) < ((L + 1 : Nat) : Int) := by omega
        go_wp2_with fail
        go_quiet (fail)
        have cN : (wr.drewN nq).cell? ⟨g, L * 3 + 1, none⟩ = some (.int .i64 (r.n : Nat)) := HB.out.2.1.at_ encR_len (j := 1) HS.out.1 rfl
        have cF : (wr.drewN nq).frozen? ⟨g, L * 3 + 1, none⟩ = false := HB.out.2.1.free _
        have hW := Lib.hid (And.intro (below_drewN HB.out.1 nq) (HB.out.2.1.drewN nq))
        generalize wr.drewN nq = W at hW cN cF ⊢
        go_wp2_with fail
        go_roundw
        case rel => exact ⟨i + 1, A ++ [⟨r.p, r.n + 1, r.t⟩], g, c, by go_num, by omega, by rw [HS.out.2.2], HPP.out, by
          have := hW.out.2.putCell encR_len (k := L) (j := 1) (x := r) (y := ⟨r.p, r.n + 1, r.t⟩) (v := .int .i64 ((r.n + 1 : Nat) : Int)) HS.out.1 (by decide) rfl
          rw [HS.out.2.1] at this
          have e : ((r.n + 1 : Nat) : Int) = (r.n : Int) + 1 := by omega
          rw [e] at this
          exact this, HB.out.2.2, hW.out.1.setCell HB.out.2.2 _⟩
        case measure => simp [intOf]; omega
      · have HPP := Lib.hid hpp
        have Hv := Lib.hid hv
        clear hpp hv
        rcases hne with rfl | ⟨u, hu, huv⟩
        · have hc0 : ((0 : Nat) : Int) = 0 := rfl
          rw [hc0]
          go_wp2_with fail
          go_quiet (fail)
          have hW := Lib.hid (And.intro (below_drewN HB.out.1 nq) (HB.out.2.1.drewN nq))
          have c0 : (wr.drewN nq).cell? ⟨q, 0, none⟩ = some (.slice (some ⟨pb, 0, none⟩) P P) := HH.out _ hW.out.1
          have cv : (wr.drewN nq).cell? ⟨pb, 0, none⟩ = some (.int .i64 v) := HV.out _ hW.out.1 0 v Hv.out
          generalize wr.drewN nq = W at hW c0 cv ⊢
          obtain ⟨g4, c4, w4, e4, hR4, hold, hown, hz4, y1, y2, y3⟩ := append_rec_run (P := Try.prog) (W := W) RS2 RS2 RT2 _ 24 Try.underlying96 info_run2 rfl (by decide) encR_len encR_one (.inr ⟨g, c, rfl, hW.out.2⟩) (⟨0, 1, decide (0 < v)⟩ : Rn) (by omega) (by decide)
          unfold encR at e4
          rw [show (((1 : Nat)) : Int) = 1 from rfl] at e4
          have H4 := Lib.hid (show Recs encR 3 w4 RT2 g4 c4 (ys ++ [⟨0, 1, decide (0 < v)⟩]) ∧ w.heap.size ≤ g4 ∧ Below w.heap.size w w4 from by
            have s1 := hW.out.1.size
            refine ⟨hR4, ?_, ⟨y1.trans hW.out.1.os, y2.trans hW.out.1.tape, y3.trans hW.out.1.output, Nat.le_trans s1 hz4, fun k hk => (hold k (by omega) fun e => ?_).trans (hW.out.1.block k hk)⟩⟩
            · rcases hown with e | e
              · have := Option.some.inj (show some g = some g4 from e)
                rw [← this]; exact HB.out.2.2
              · omega
            · have := Option.some.inj (show some g = some k from e)
              have := HB.out.2.2
              omega)
          rw [hc0] at e4
          clear hR4 hold hown hz4 y1 y2 y3
          go_wp2_with fail
          go_roundw
          case rel => exact ⟨0 + 1, ys ++ [⟨0, 1, decide (0 < v)⟩], g4, c4, rfl, by omega, by simp, HPP.out, H4.out.1, H4.out.2.1, H4.out.2.2⟩
          case measure => simp [intOf]; omega
        · by_cases hz : i = 0
          · subst hz
            have h1 := Hv.out
            have h2 := h1.symm.trans hu
            injection h2 with h2
            exact absurd h2 huv
          have cu := HV.out wr HB.out.1 (i - 1) u hu
          have hi3 : (0 : Int) < (i : Int) := by omega
          have hi4 : (0 : Int) ≤ (i : Int) - 1 := by omega
          have hi5 : ((i : Int) - 1).toNat = i - 1 := by omega
          have hi6 : (i : Int) - 1 < (P : Int) := by omega
          have hne : (v == u) = false := by simpa using huv
          have hne2 : (u == v) = false := by simpa using fun e => huv e.symm
          have hi2 : 0 < i := Nat.pos_of_ne_zero hz
          clear hu huv
          go_wp2_with fail
          go_quiet (fail)
          have hW := Lib.hid (And.intro (below_drewN HB.out.1 nq) (HB.out.2.1.drewN nq))
          have c0 : (wr.drewN nq).cell? ⟨q, 0, none⟩ = some (.slice (some ⟨pb, 0, none⟩) P P) := HH.out _ hW.out.1
          have cv : (wr.drewN nq).cell? ⟨pb, i, none⟩ = some (.int .i64 v) := HV.out _ hW.out.1 i v Hv.out
          generalize wr.drewN nq = W at hW c0 cv ⊢
          obtain ⟨g4, c4, w4, e4, hR4, hold, hown, hz4, y1, y2, y3⟩ := append_rec_run (P := Try.prog) (W := W) RS2 RS2 RT2 _ 24 Try.underlying96 info_run2 rfl (by decide) encR_len encR_one (.inr ⟨g, c, rfl, hW.out.2⟩) (⟨i, 1, decide (0 < v)⟩ : Rn) (by omega) (by decide)
          unfold encR at e4
          rw [show (((1 : Nat)) : Int) = 1 from rfl] at e4
          have H4 := Lib.hid (show Recs encR 3 w4 RT2 g4 c4 (ys ++ [⟨i, 1, decide (0 < v)⟩]) ∧ w.heap.size ≤ g4 ∧ Below w.heap.size w w4 from by
            have s1 := hW.out.1.size
            refine ⟨hR4, ?_, ⟨y1.trans hW.out.1.os, y2.trans hW.out.1.tape, y3.trans hW.out.1.output, Nat.le_trans s1 hz4, fun k hk => (hold k (by omega) fun e => ?_).trans (hW.out.1.block k hk)⟩⟩
            · rcases hown with e | e
              · have := Option.some.inj (show some g = some g4 from e)
                rw [← this]; exact HB.out.2.2
              · omega
            · have := Option.some.inj (show some g = some k from e)
              have := HB.out.2.2
              omega)
          clear hR4 hold hown hz4 y1 y2 y3
          go_wp2_with fail
          go_roundw
          case rel => exact ⟨i + 1, ys ++ [⟨i, 1, decide (0 < v)⟩], g4, c4, by go_num, by omega, by simp, HPP.out, H4.out.1, H4.out.2.1, H4.out.2.2⟩
          case measure => simp [intOf]; omega
    · obtain rfl : i = P := by omega
      have he := part_end HOk.out HP.out
      subst he
      go_wp2_with fail
      go_ret
      exact ⟨_, rfl, g, c, rfl, HB.out.2.1, HB.out.2.2, HB.out.1⟩
end
end Go.Proofs.Ytldlogmjkbhomaa.Spa
