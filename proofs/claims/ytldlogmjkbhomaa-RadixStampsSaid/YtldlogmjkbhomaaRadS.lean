/- The contracts of the reference's Set, Clear, Get and Leaves (layer 10). -/
import Derived.Test.YtldlogmjkbhomaaRadR
import Derived.Test.YtldlogmjkbhomaaRadD
namespace Go.Proofs.Ytldlogmjkbhomaa.Rad
open Go.RowKit Go.Proofs.Ytldlogmjkbhomaa.Aid Go.Proofs.Ytldlogmjkbhomaa.Pack
theorem word_sum {sp ve cl sa t : Int} (h : rightE ⟨sp, ve, cl, sa⟩ = true) (h0 : 0 ≤ t) (h1 : t < 1099511627776) :
    IntKind.u64.wrap (IntKind.u64.wrap (IntKind.u64.wrap (IntKind.u64.wrap (IntKind.u64.wrap (1 + IntKind.u64.wrap (2 * IntKind.u64.wrap sa)) + IntKind.u64.wrap (16 * IntKind.u64.wrap cl)) + IntKind.u64.wrap (1024 * IntKind.u64.wrap ve)) + IntKind.u64.wrap (4096 * IntKind.u64.wrap sp)) + IntKind.u64.wrap (t * 16777216)) = wordE ⟨sp, ve, cl, sa⟩ t := by
  unfold rightE at h
  simp only [decide_eq_true_eq] at h
  unfold wordE
  simp only [Aid.u64_wrap]
  omega
set_option maxHeartbeats 1000000 in
theorem rset_calls (w : World) (p g pages : Nat) (s : RS) (page n : Int) (e : En) (h : RefAt w p g pages s) :
    Calls Try.prog 16 #[.pointer (some ⟨p, 0, none⟩), .int .i64 page, .int .i64 n, .agg (encE e).toArray] w fun r w' => r = .returned (.int .i64 (setC pages page n e)) ∧ RefAt w' p g pages (setS pages s page n e) ∧ Kept [p, g] w w' := by
  have hn := nextS_ok s.st
  have HC := Lib.hid (show rightE e = false ∨ inR pages page n = false → setC pages page n e = 11 ∧ setS pages s page n e = s from fun h => by
    have : setC pages page n e = 11 := by unfold setC; rw [if_neg (by rcases h with h | h <;> simp [h])]
    exact ⟨this, by unfold setS; rw [this, if_neg (by decide)]⟩)
  have HY := Lib.hid (show rightE e = true → inR pages page n = true → setC pages page n e = 0 ∧ setS pages s page n e = ⟨fillW s.ws page.toNat n.toNat (wordE e (nextS s.st)), nextS s.st⟩ from fun h1 h2 => by
    have : setC pages page n e = 0 := by unfold setC; rw [if_pos ⟨h2, h1⟩]
    exact ⟨this, by unfold setS; rw [this, if_pos rfl]⟩)
  generalize setC pages page n e = cc at HC HY ⊢
  generalize setS pages s page n e = ss at HC HY ⊢
  obtain ⟨sp, ve, cl, sa⟩ := e
  have HRt := Lib.hid (right_calls (w.alloc (.cells #[.int .i64 sp, .int .i64 ve, .int .i64 cl, .int .i64 sa] 37)) ⟨sp, ve, cl, sa⟩)
  unfold encE at HRt ⊢
  simp only at HRt ⊢
  have hB := Blk.new w #[.int .i64 sp, .int .i64 ve, .int .i64 cl, .int .i64 sa] 37
  have hb0 := balloc (Below.refl w.heap.size w) (.cells #[.int .i64 sp, .int .i64 ve, .int .i64 cl, .int .i64 sa] 37)
  have hQ := h.below hb0
  have HIn := Lib.hid (rin_calls _ p g pages s page n hQ)
  have HP := Lib.hid hQ
  have HB0 := Lib.hid hb0
  have HNx := Lib.hid hn
  have hlt := h.head.lt
  have hlg := h.row.lt
  clear h hb0 hn hQ
  go_enter Try.func16, Try.ntmps16
  go_upto_region 1 with fail
  generalize w.alloc (.cells #[.int .i64 sp, .int .i64 ve, .int .i64 cl, .int .i64 sa] 37) = w2 at hB HB0 HP HIn HRt ⊢
  obtain ⟨q, hq⟩ : ∃ q, q = w.heap.size := ⟨_, rfl⟩
  rw [← hq] at hB hlt hlg ⊢
  have HBq := Lib.hid hB
  have HQ := Lib.hid hq
  have k0 : w2.cell? ⟨q, 0, none⟩ = some (.int .i64 sp) := hB.cell rfl
  have k1 : w2.cell? ⟨q, 1, none⟩ = some (.int .i64 ve) := hB.cell rfl
  have k2 : w2.cell? ⟨q, 2, none⟩ = some (.int .i64 cl) := hB.cell rfl
  have k3 : w2.cell? ⟨q, 3, none⟩ = some (.int .i64 sa) := hB.cell rfl
  clear hq hB
  cases hi : inR pages page n with
  | false =>
    rw [hi] at HIn
    obtain ⟨rfl, rfl⟩ := HC.out (.inr hi)
    go_wp2_with fail
    refine HIn.out.mono ?_
    rintro e w5 ⟨rfl, rfl⟩
    go_wp2_with fail
    go_ret
    exact ⟨rfl, HP.out, Kept.of_below HB0.out _⟩
  | true =>
    rw [hi] at HIn
    cases hr : rightE ⟨sp, ve, cl, sa⟩ with
    | false =>
      rw [hr] at HRt
      obtain ⟨rfl, rfl⟩ := HC.out (.inl hr)
      go_wp2_with fail
      refine HIn.out.mono ?_
      rintro e w5 ⟨rfl, rfl⟩
      go_wp2_with fail
      refine HRt.out.mono ?_
      rintro e w5 ⟨rfl, hb5⟩
      have HB5 := Lib.hid hb5
      clear hb5
      go_wp2_with fail
      go_ret
      exact ⟨rfl, HP.out.below HB5.out, Kept.of_below (bstep HB0.out HB5.out) _⟩
    | true =>
      rw [hr] at HRt
      obtain ⟨rfl, rfl⟩ := HY.out hr hi
      have HSum := Lib.hid (word_sum hr HNx.out.1 HNx.out.2)
      have HX := Lib.hid (show wrdOk (wordE ⟨sp, ve, cl, sa⟩ (nextS s.st)) from .inr ⟨_, _, hr, HNx.out.1, HNx.out.2, rfl⟩)
      have HX0 := Lib.hid (wordE_ne (e := ⟨sp, ve, cl, sa⟩) (t := nextS s.st))
      obtain ⟨a, m, rfl, rfl, hm1, ham⟩ := inR_nat hi
      have h12 := HP.out.ok.p12
      have hst0 := HP.out.ok.st0
      have hst1 := HP.out.ok.st1
      clear hr hi HC HY
      go_wp2_with fail
      refine HIn.out.mono ?_
      rintro e w5 ⟨rfl, rfl⟩
      go_wp2_with fail
      refine HRt.out.mono ?_
      rintro e w5 ⟨rfl, hb5⟩
      have hB5 := HBq.out.below hb5
      have hP5 := HP.out.below hb5
      have c1 := hP5.c1
      have f1 := hP5.head.free 1
      have HK5 := Lib.hid (bstep HB0.out hb5)
      have HP5 := Lib.hid hP5
      have HB5 := Lib.hid hB5
      clear hb5 hB5 hP5 k0 k1 k2 k3 HIn HRt HP HBq HB0
      go_upto_region 4 with fail
      rw [show (s.st + 1) % 1099511627776 = nextS s.st from rfl]
      have hqp : q ≠ p := by omega
      have hqg : q ≠ g := by omega
      have hgq : g ≠ q := by omega
      have hgp : g ≠ p := Ne.symm HP5.out.ne
      have hpg : p ≠ g := HP5.out.ne
      have HP6 := Lib.hid (HP5.out.stamp HNx.out)
      have HB6 := Lib.hid (HB5.out.other (a := ⟨p, 1, none⟩) hqp (.int .u64 (nextS s.st)))
      have HK6 := Lib.hid ((Kept.of_below HK5.out [p, g]).setCell (p := ⟨p, 1, none⟩) (by simp) (.int .u64 (nextS s.st)))
      have HOk := Lib.hid HP5.out.ok
      clear c1 f1 HP5 HB5 HK5
      generalize w5.setCell ⟨p, 1, none⟩ (.int .u64 (nextS s.st)) = w6 at HP6 HB6 HK6 ⊢
      obtain ⟨t, ht⟩ : ∃ t, t = nextS s.st := ⟨_, rfl⟩
      have HTt := Lib.hid ht
      rw [← ht] at HP6 HNx HSum HX HX0 ⊢
      clear ht
      go_wp2_with fail
      go_loopw [9] (fun i wr => ∃ k : Nat, i = .int .i64 (k : Int) ∧ a ≤ k ∧ k ≤ a + m ∧ RefAt wr p g pages ⟨fillW s.ws a (k - a) (wordE ⟨sp, ve, cl, sa⟩ t), t⟩ ∧ Blk wr q #[.int .i64 sp, .int .i64 ve, .int .i64 cl, .int .i64 sa] 37 ∧ Kept [p, g] w wr) (fun i _ => a + m - (intOf i).toNat)
      case atStart => exact ⟨a, rfl, Nat.le_refl _, by omega, by rw [Nat.sub_self, fillW_zero]; exact HP6.out, HB6.out, HK6.out⟩
      case round =>
        obtain ⟨k, rfl, hak, hk, hR, hB, hK⟩ := hrel
        have HR := Lib.hid hR
        have HB := Lib.hid hB
        have HK := Lib.hid hK
        clear HP6 HB6 HK6
        by_cases hlt2 : k < a + m
        · have c0 := hR.c0
          have c1 := hR.c1
          have fk := hR.row.free k
          have ck := hR.ck (i := k) (by omega)
          have k0 : wr.cell? ⟨q, 0, none⟩ = some (.int .i64 sp) := hB.cell rfl
          have k1 : wr.cell? ⟨q, 1, none⟩ = some (.int .i64 ve) := hB.cell rfl
          have k2 : wr.cell? ⟨q, 2, none⟩ = some (.int .i64 cl) := hB.cell rfl
          have k3 : wr.cell? ⟨q, 3, none⟩ = some (.int .i64 sa) := hB.cell rfl
          have hk0 : (0 : Int) ≤ (k : Int) := by omega
          have hk1 : (k : Int) < (pages : Int) := by omega
          have hk2 : (k : Int) < (a : Int) + (m : Int) := by omega
          have Hns := Lib.hid (show ∀ n, n = k - a → fillW s.ws a (k + 1 - a) (wordE ⟨sp, ve, cl, sa⟩ t) = putW (fillW s.ws a n (wordE ⟨sp, ve, cl, sa⟩ t)) k (wordE ⟨sp, ve, cl, sa⟩ t) from fun n e => by
            subst e
            rw [show k + 1 - a = (k - a) + 1 by omega, fillW_succ, show a + (k - a) = k by omega])
          clear hR hB hK
          simp only at c1
          go_upto_region 7 with fail
          go_region_held3 (fun w' => w'.cell? ⟨p, 0, none⟩ = some (.slice (some ⟨g, 0, none⟩) pages pages) ∧ w'.cell? ⟨p, 1, none⟩ = some (.int .u64 t) ∧ w'.cell? ⟨q, 0, none⟩ = some (.int .i64 sp) ∧ w'.cell? ⟨q, 1, none⟩ = some (.int .i64 ve) ∧ w'.cell? ⟨q, 2, none⟩ = some (.int .i64 cl) ∧ w'.cell? ⟨q, 3, none⟩ = some (.int .i64 sa)) (go_keep) (fail)
          all_goals
            go_wp2_with fail
            rw [HSum.out]
            go_roundw
            case rel =>
              have hok : OkR pages ⟨putW (fillW s.ws a (k - a) (wordE ⟨sp, ve, cl, sa⟩ t)) k (wordE ⟨sp, ve, cl, sa⟩ t), t⟩ := by
                rw [← Hns.out _ rfl]
                exact HOk.out.fill (by omega) HX.out _ HNx.out
              have hp := (HR.out.put (i := k) hok).below (Below.refl _ _).drew
              rw [← Hns.out _ rfl] at hp
              exact ⟨k + 1, by go_num, by omega, by omega, hp, (HB.out.other (a := ⟨g, k, none⟩) hqg _).drew, (HK.out.setCell (p := ⟨g, k, none⟩) (by simp) _).drew⟩
            case measure => simp [intOf]; omega
        · obtain rfl : k = a + m := by omega
          go_wp2_with fail
          go_ret
          exact ⟨rfl, by have := HR.out; rw [show a + m - a = m by omega, HTt.out] at this; exact this, HK.out⟩
end Go.Proofs.Ytldlogmjkbhomaa.Rad
