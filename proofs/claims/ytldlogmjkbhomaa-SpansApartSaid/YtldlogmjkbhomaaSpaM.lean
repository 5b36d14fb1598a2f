/- The walk of SpansApart. -/
import Derived.Test.YtldlogmjkbhomaaSpaL
set_option linter.unusedSimpArgs false
namespace Go.Proofs.Ytldlogmjkbhomaa.Spa
open Go.RowKit Go.Proofs.Ytldlogmjkbhomaa.Aid
abbrev CT : TypeId := 93
theorem wf_of {x : Int} (h0 : 0 ≤ x) (h1 : x ≤ 1000000) : (Lit.int .i64 x).wf = true := by
  simp [Lit.wf, IntKind.min, IntKind.max, IntKind.signed, IntKind.bits]
  omega
set_option maxHeartbeats 8000000 in
set_option maxRecDepth 100000 in
theorem apart_yes (w : World) (P : Nat) (xs : List Cl) (A : Option Addr) (c : Nat) (hx : Cls w A xs) (hP : P ≤ 200) (hl : xs.length ≤ 100) :
    Calls Try.prog 10 #[.int .i64 P, .slice A xs.length c] w fun e w' => e = .returned (.bool true) ∧ Below w.heap.size w w' := by
  have HX := Lib.hid hx
  have HG := Lib.hid (fun W : World => great_calls W P A xs.length c)
  rw [show (decide ((200 : Int) < (P : Int)) || decide (100 < xs.length)) = false by simp; omega] at HG
  clear hx
  go_enter Try.func10, Try.ntmps10
  go_wp2_with fail
  refine (alive_calls w).mono ?_
  rintro e w1 ⟨rfl, hb1⟩
  have HB1 := Lib.hid hb1
  clear hb1
  go_wp2_with fail
  refine (HG.out w1).mono ?_
  rintro e w2 ⟨rfl, rfl⟩
  go_wp2_with fail
  refine (new_yes w1 P (by omega)).mono ?_
  rintro e w2 ⟨p, F, rfl, hQ, hF, hb⟩
  have H2 := Lib.hid (show Hold w w2 p F P (xs0 P) from ⟨hQ, fun x hx => Nat.le_trans HB1.out.size (hF x hx), below_then HB1.out hb⟩)
  clear hQ hF hb HG HB1
  have hmm := @run_makeMap Try.prog
  go_upto_region 9 with fail
  have H3 := Lib.hid (show Ap w (w2.alloc (.map #[] 0)) p F P (xs0 P) w2.heap.size (tk (xs0 P)).length (gm (xs0 P)) from by
    have hb := (Below.refl w2.heap.size w2).alloc (Nat.le_refl _) (.map #[] 0)
    refine ⟨H2.out.on hb, ?_, fun hx => ?_, H2.out.below.size⟩
    · have h0 := MapI.made w2 Try.prog IT' IT' .i64 (keI .i64) (okI .i64)
      rw [show (tk (xs0 P)).length = 0 by unfold xs0; by_cases e : P = 0 <;> simp [e, tk]]
      refine h0.congr fun y _ => ?_
      cases hg : gm (xs0 P) y with
      | none => rfl
      | some v =>
        obtain ⟨r, hr, _⟩ := (gm_iff H2.out.sp.ok y v).1 hg
        unfold xs0 at hr
        by_cases e : P = 0 <;> simp [e, tf] at hr
    · have := H2.out.sp.flt _ hx
      omega)
  clear H2
  generalize w2.alloc (.map #[] 0) = w3 at H3 ⊢
  generalize w2.heap.size = mb at H3 ⊢
  clear hmm
  go_wp2_with fail
  go_loopw [8] (fun i wr => ∃ (k : Nat) (ys : List Rn) (F : List Nat), i = .int .i64 k ∧ k ≤ xs.length ∧ Ap w wr p F P ys mb (tk ys).length (gm ys)) (fun i _ => xs.length - (intOf i).toNat)
  case atStart => exact ⟨0, _, F, rfl, by omega, H3.out⟩
  case round =>
    obtain ⟨k, ys, F, rfl, hk, hT⟩ := hrel
    have HT := Lib.hid hT
    clear hT H3
    by_cases hlt : k < xs.length
    · obtain ⟨bc, oc, rfl, hC⟩ := HX.out k hlt
      generalize xs.getD k cl0 = cl at hC
      have hC2 := hC.below HT.out.hold.below
      have hk0 : (0 : Int) ≤ (k : Int) := by omega
      have hk1 : (k : Int) < (xs.length : Int) := by omega
      have d0 := hC2.c0
      have d1 := hC2.c1
      have d2 := hC2.c2
      have HW := Lib.hid (And.intro hC.w1 hC.w2)
      obtain ⟨g, n, a⟩ := cl
      dsimp only at d0 d1 d2 HW
      clear hC hC2
      go_upto_region 13 with fail
      have hb0 := (Below.refl wr.heap.size wr).alloc (Nat.le_refl _) (.cells #[.bool g, .int .i64 n, .int .i64 a] CT)
      have HK := Lib.hid (Blk.new wr #[.bool g, .int .i64 n, .int .i64 a] CT)
      have H4 := Lib.hid (HT.out.on hb0)
      have HN := Lib.hid (show wr.heap.size ∉ F from fun hx => Nat.lt_irrefl _ (HT.out.hold.sp.flt _ hx))
      have HOK := Lib.hid HT.out.hold.sp.ok
      clear hb0 HT d0 d1 d2
      generalize wr.alloc (.cells #[.bool g, .int .i64 n, .int .i64 a] CT) = w4 at HK H4 ⊢
      generalize wr.heap.size = cb at HK HN ⊢
      have d0 := HK.out.cell (o := 0) rfl
      have d1 := HK.out.cell (o := 1) rfl
      have d2 := HK.out.cell (o := 2) rfl
      cases g with
      | true =>
        clear d2
        go_wp2_with fail
        refine (give_calls w4 p F P ys H4.out.hold.sp n).mono ?_
        rintro e w5 ⟨rfl, hS⟩
        obtain ⟨F5, hH5, hK5⟩ := H4.out.wrote hS
        have H5 := Lib.hid hH5
        have d1 := (HK.out.kept hK5 HN.out).cell (o := 1) rfl
        have hlk := hH5.look HW.out.1
        clear hS hH5 hK5 d0 H4
        cases hf : findT ys n with
        | none =>
          obtain ⟨g1, g2, g3⟩ := giveE_none hf
          rw [show gm ys n = none by unfold gm; rw [hf]; rfl, Option.getD_none] at hlk
          rw [g1, g2]
          rw [g3] at H5
          clear hf g1 g2 g3
          go_wp2_with fail
          go_roundw
          case rel => exact ⟨k + 1, ys, F5, by go_num, by omega, H5.out⟩
          case measure => simp [intOf]; omega
        | some j =>
          obtain ⟨g1, g2, g3⟩ := giveE_some hf
          rw [show gm ys n = some (((ys.getD j r0).n : Nat) : Int) by unfold gm; rw [hf]; rfl, Option.getD_some] at hlk
          rw [g1, g2]
          have hjn := (pos_n HOK.out (findT_some hf).1).1
          have HGM := Lib.hid (And.intro (gm_give HOK.out hf) (len_give hf))
          have hgs : (gm ys n).isSome = true := by unfold gm; rw [hf]; rfl
          rw [g3] at H5
          obtain ⟨w6, hdr, hM6, hK6⟩ := H5.out.map.drop keyJ Try.underlying107 (y := n) HW.out.1 0
          have hdr' : (Builtin.delete_ #[107, 3] 0 #[.map (some mb), .int .i64 n]).run Try.prog w5 = .ok (.tuple #[]) w6 := hdr
          have H6 := Lib.hid (show Ap w w6 p F5 P (giveX ys j) mb (tk (giveX ys j)).length (gm (giveX ys j)) from by
            refine H5.out.upd ?_ hK6
            rw [if_pos hgs, HGM.out.2, Nat.add_sub_cancel] at hM6
            exact hM6.congr fun y _ => (HGM.out.1 y).symm)
          generalize (ys.getD j r0).n = N at hlk hjn ⊢
          have hN0 : (0 : Int) < (N : Int) := by omega
          clear hf g1 g2 g3 hdr hM6 hK6 hgs HGM
          go_wp2_with fail
          go_roundw
          case rel => exact ⟨k + 1, _, F5, by go_num, by omega, H6.out⟩
          case measure => simp [intOf]; omega
      | false =>
        go_wp2_with fail
        refine (can_calls w4 p F P ys H4.out.hold.sp n a).mono ?_
        rintro e w5 ⟨rfl, hb⟩
        have H5 := Lib.hid (H4.out.on hb)
        have HK5 := Lib.hid (HK.out.below hb)
        have d1 := HK5.out.cell (o := 1) rfl
        have d2 := HK5.out.cell (o := 2) rfl
        clear hb d0 H4 HK
        go_wp2_with fail
        refine (take_calls w5 p F P ys H5.out.hold.sp n a).mono ?_
        rintro e w6 ⟨rfl, hS⟩
        obtain ⟨F6, hH6, hK6⟩ := H5.out.wrote hS
        have H6 := Lib.hid hH6
        have HK6 := Lib.hid (HK5.out.kept hK6 HN.out)
        have d1 := HK6.out.cell (o := 1) rfl
        have d2 := HK6.out.cell (o := 2) rfl
        clear hS hH6 hK6 H5 HK5
        cases hb : bestA n a ys with
        | none =>
          obtain ⟨g1, g2, g3⟩ := takeE_none hb
          rw [g3] at H6
          generalize takeE n a ys = ev at g1 g2 ⊢
          clear g3 hb
          rw [Option.isSome_none]
          go_wp2_with fail
          go_roundw
          case rel => exact ⟨k + 1, ys, F6, by go_num, by omega, H6.out⟩
          case measure => simp [intOf]; omega
        | some j =>
          obtain ⟨g1, g2, g3, g4, g5⟩ := takeE_some hb
          have hp1 := (isPow_bounds g2).1
          have hgt := gm_take HOK.out hb
          have hno := (hgt 0).2
          have htb : takeAt n a ys ≤ 4096 := by
            obtain ⟨q1, q2, q3, q4, q5, q6, q7⟩ := best_facts HOK.out hb
            have : takeAt n a ys = ((firstR (ys.getD j r0) a.toNat : Nat) : Int) := by unfold takeAt; rw [hb]
            omega
          have hwf : (Lit.int .i64 (takeAt n a ys)).wf = true := wf_of (by omega) (by omega)
          have hlk := H6.out.look hwf
          rw [hno, Option.getD_none] at hlk
          have HGM := Lib.hid (And.intro (fun y => (hgt y).1) (len_take HOK.out hb))
          have hyl := len_le HOK.out
          have htl := tk_len ys
          obtain ⟨w7, hput, hM7, hK7⟩ := H6.out.map.put keyJ Try.underlying107 Try.underlying3 (by unfold maxLen; omega) (y := takeAt n a ys) hwf (z := n) HW.out.1
          have hput' : (Instr.mapUpdate 107 (.map (some mb)) (.int .i64 (takeAt n a ys)) (.int .i64 n)).run Try.prog w6 = .ok () w7 := hput
          have H7 := Lib.hid (show Ap w w7 p F6 P (takeS n a ys) mb (tk (takeS n a ys)).length (gm (takeS n a ys)) from by
            refine H6.out.upd ?_ hK7
            rw [hno, if_neg (by simp), ← HGM.out.2] at hM7
            exact hM7.congr fun y _ => (HGM.out.1 y).symm)
          rw [g1, Option.isSome_some]
          generalize takeAt n a ys = tv at *
          have ha0 : a ≠ 0 := by omega
          have hrm : Int.tmod tv a = 0 := by rw [Int.tmod_eq_emod_of_nonneg g5]; exact g4
          clear hput hM7 hK7 hgt hno hwf HGM hb g1 g2 htb
          go_wp2_with fail
          go_roundw
          case rel => exact ⟨k + 1, _, F6, by go_num, by omega, H7.out⟩
          case measure => simp [intOf]; omega
    · obtain rfl : k = xs.length := by omega
      clear hk hlt
      go_wp2_with fail
      refine (runs_calls wr p F P ys HT.out.hold.sp).mono ?_
      rintro e w4 ⟨hd, rfl, hR, _, hb⟩
      obtain ⟨A5, c5, rfl, hat⟩ := Hdr.open3 hR
      have HAt := Lib.hid hat
      have H4 := Lib.hid (HT.out.on hb)
      have HOK := Lib.hid H4.out.hold.sp.ok
      have hyl := len_le HOK.out
      clear hR hb hat HT
      go_wp2_with fail
      go_loopw [15, 16, 17, 19] (fun pv fv cv iv wr => ∃ (k q : Nat), iv = .int .i64 k ∧ k ≤ ys.length ∧ pv = .int .i64 q ∧ (k < ys.length → (ys.getD k r0).p = q) ∧ (k = ys.length → q = P) ∧ fv = .bool (decide (0 < k) && !(ys.getD (k - 1) r0).t) ∧ cv = .int .i64 ((tk (ys.take k)).length : Nat) ∧ Below w4.heap.size w4 wr) (fun _ _ _ iv _ => ys.length - (intOf iv).toNat)
      case atStart =>
        have hz := zero_p HOK.out
        exact ⟨0, 0, rfl, by omega, rfl, fun h => hz.1 h, fun h => (hz.2 h).symm, by simp, by simp [tk], Below.refl _ _⟩
      case round =>
        obtain ⟨k, q, rfl, hk, rfl, hq1, hq2, rfl, rfl, hb⟩ := hrel
        have HB := Lib.hid hb
        have HCt := Lib.hid (show (tk (ys.take k)).length ≤ 4096 from by
          have h1 := tk_len (ys.take k)
          rw [List.length_take] at h1
          omega)
        have HCW := Lib.hid (show wrap64 (((tk (ys.take k)).length : Int) + 1) = (((tk (ys.take k)).length + 1 : Nat) : Int) from by
          have := HCt.out
          unfold wrap64
          omega)
        clear hb
        by_cases hlt : k < ys.length
        · obtain ⟨g5, rfl, k0, k1, k2⟩ := HAt.out k hlt
          have hgl : g5 < w4.heap.size := World.block_lt_of_cell? _ _ k0
          have k0 := (HB.out.cell (p := ⟨g5, _, none⟩) hgl).trans k0
          have k1 := (HB.out.cell (p := ⟨g5, _, none⟩) hgl).trans k1
          have k2 := (HB.out.cell (p := ⟨g5, _, none⟩) hgl).trans k2
          have hk0 : (0 : Int) ≤ (k : Int) := by omega
          have hk1 : (k : Int) < (ys.length : Int) := by omega
          have hq := hq1 hlt
          have hpn := pos_n HOK.out hlt
          have hnx := Lib.hid (next_p HOK.out hlt)
          have hP4 := HOK.out.n
          have HTS := Lib.hid (tk_step hlt)
          have hfr : (decide (0 < k) && !(ys.getD (k - 1) r0).t) = true → (ys.getD k r0).t = true := fun h => by
            simp only [Bool.and_eq_true, decide_eq_true_eq, Bool.not_eq_true'] at h
            have h2 := gaps_at HOK.out (k := k - 1) (by omega)
            rw [show k - 1 + 1 = k by omega] at h2
            rcases h2 with e | e
            · rw [h.2] at e; cases e
            · exact e
          have HGT := Lib.hid (fun ht => gm_get HOK.out hlt ht)
          have hfx : ((decide (0 < k + 1) && !(ys.getD (k + 1 - 1) r0).t)) = !(ys.getD k r0).t := by simp
          have HFX := Lib.hid hfx
          generalize hfb : (decide (0 < k) && !(ys.getD (k - 1) r0).t) = fb at hfr ⊢
          clear hq1 hq2 hgl hfx hfb
          have HHlk := Lib.hid (fun (y : Int) (hy : (Lit.int .i64 y).wf = true) => (H4.out.on HB.out.drew).look hy)
          generalize hr : ys.getD k r0 = r at *
          obtain ⟨rp, rn, rt⟩ := r
          dsimp only at *
          subst hq
          have hwf := wf_of (x := (rp : Int)) (by omega) (by omega)
          have hlk := HHlk.out _ hwf
          obtain ⟨hn1, hn2⟩ := hpn
          have hn3 : ¬ (rn : Int) < 1 := by omega
          have hn4 : (1 : Int) ≤ (rn : Int) := by omega
          have hn5 : rn ≠ 0 := by omega
          have hn6 : (rn : Int) ≠ 0 := by omega
          have hn7 : ¬ (rn : Int) ≤ 0 := by omega
          have hn8 : 0 < (rn : Int) := by omega
          have hn9 : 0 < rn := by omega
          have hdn : ∀ D : Decidable ((rn : Int) < 1), @decide _ D = false := fun D => by simp; omega
          clear hn5 hn6 hn7 hn8 hn9
          cases rt with
          | true =>
            rw [HGT.out rfl, Option.getD_some] at hlk
            clear hfr
            cases fb with
            | false =>
              go_wp2_with fail
              refine wp_region_held_drew (S := fun w' => w'.cell? ⟨g5, k * 3, none⟩ = some (.int .i64 rp) ∧ w'.cell? ⟨g5, k * 3 + 1, none⟩ = some (.int .i64 rn) ∧ w'.cell? ⟨g5, k * 3 + 2, none⟩ = some (.bool true) ∧ (Instr.lookup 107 (.map (some mb)) (.int .i64 (rp : Nat)) false).run Try.prog w' = .ok (.int .i64 (rn : Nat)) w') (by kernel_rfl) ?_ (fun hHeld => ?_)
              · (try dsimp only); exact ⟨k0, k1, k2, hlk⟩
              refine wpAnyH_yield (i := 0) 127 (v := ?_) (by kernel_rfl) (by kernel_rfl) (by kernel_rfl) (by kernel_rfl) (by kernel_rfl) (fun _ _ _ h => h) (by assumption) ?_ ?_
              rotate_left
              · (intro w hSw; (try dsimp only at hSw); refine congrArg some ?_; go_simp <;> with_reducible rfl)
              (try dsimp only []); (try simp only [Act.put, List.setIfInBounds_toArray, List.set_cons_zero, List.set_cons_succ])
              refine wpAnyH_yield (i := 1) 128 (v := ?_) (by kernel_rfl) (by kernel_rfl) (by kernel_rfl) (by kernel_rfl) (by kernel_rfl) (fun _ _ _ h => h) (by assumption) ?_ ?_
              rotate_left
              · (intro w hSw; (try dsimp only at hSw); refine congrArg some ?_; go_simp <;> with_reducible rfl)
              (try dsimp only []); (try simp only [Act.put, List.setIfInBounds_toArray, List.set_cons_zero, List.set_cons_succ])
              refine wpAnyH_yield (i := 2) 129 (v := ?_) (by kernel_rfl) (by kernel_rfl) (by kernel_rfl) (by kernel_rfl) (by kernel_rfl) (fun _ _ _ h => h) (by assumption) ?_ ?_
              rotate_left
              · (intro w hSw; (try dsimp only at hSw); refine congrArg some ?_; go_simp <;> with_reducible rfl)
              (try dsimp only []); (try simp only [Act.put, List.setIfInBounds_toArray, List.set_cons_zero, List.set_cons_succ])
              refine wpAnyH_yield (i := 3) 130 (v := ?_) (by kernel_rfl) (by kernel_rfl) (by kernel_rfl) (by kernel_rfl) (by kernel_rfl) (fun _ _ _ h => h) (by assumption) ?_ ?_
              rotate_left
              · (intro w hSw; (try dsimp only at hSw); refine congrArg some ?_; go_simp <;> with_reducible rfl)
              (try dsimp only []); (try simp only [Act.put, List.setIfInBounds_toArray, List.set_cons_zero, List.set_cons_succ])
              refine wpAnyH_yield (i := 4) 131 (v := ?_) (by kernel_rfl) (by kernel_rfl) (by kernel_rfl) (by kernel_rfl) (by kernel_rfl) (fun _ _ _ h => h) (by assumption) ?_ ?_
              rotate_left
              · (intro w hSw; (try dsimp only at hSw); refine congrArg some ?_; go_simp <;> with_reducible rfl)
              (try dsimp only []); (try simp only [Act.put, List.setIfInBounds_toArray, List.set_cons_zero, List.set_cons_succ])
              refine wpAnyH_yield (i := 5) 132 (v := ?_) (by kernel_rfl) (by kernel_rfl) (by kernel_rfl) (by kernel_rfl) (by kernel_rfl) (fun _ _ _ h => h) (by assumption) ?_ ?_
              rotate_left
              · (intro w hSw; (try dsimp only at hSw); refine congrArg some ?_; go_simp <;> with_reducible rfl)
              (try dsimp only []); (try simp only [Act.put, List.setIfInBounds_toArray, List.set_cons_zero, List.set_cons_succ])
              refine wpAnyH_yield (i := 6) 133 (v := ?_) (by kernel_rfl) (by kernel_rfl) (by kernel_rfl) (by kernel_rfl) (by kernel_rfl) (fun _ _ _ h => h) (by assumption) ?_ ?_
              rotate_left
              · (intro w hSw; (try dsimp only at hSw); refine congrArg some ?_; go_simp <;> with_reducible rfl)
              (try dsimp only []); (try simp only [Act.put, List.setIfInBounds_toArray, List.set_cons_zero, List.set_cons_succ])
              refine wpAnyH_yield (i := 7) 134 (v := ?_) (by kernel_rfl) (by kernel_rfl) (by kernel_rfl) (by kernel_rfl) (by kernel_rfl) (fun _ _ _ h => h) (by assumption) ?_ ?_
              rotate_left
              · (intro w hSw; (try dsimp only at hSw); refine congrArg some ?_; go_simp <;> with_reducible rfl)
              (try dsimp only []); (try simp only [Act.put, List.setIfInBounds_toArray, List.set_cons_zero, List.set_cons_succ])
              refine wpAnyH_yield (i := 8) 135 (v := ?_) (by kernel_rfl) (by kernel_rfl) (by kernel_rfl) (by kernel_rfl) (by kernel_rfl) (fun _ _ _ h => h) (by assumption) ?_ ?_
              rotate_left
              · (intro w hSw; (try dsimp only at hSw); refine congrArg some ?_; go_simp <;> with_reducible rfl)
              (try dsimp only []); (try simp only [Act.put, List.setIfInBounds_toArray, List.set_cons_zero, List.set_cons_succ])
              refine wpAnyH_yield (i := 9) 136 (v := ?_) (by kernel_rfl) (by kernel_rfl) (by kernel_rfl) (by kernel_rfl) (by kernel_rfl) (fun _ _ _ h => h) (by assumption) ?_ ?_
              rotate_left
              · (intro w hSw; (try dsimp only at hSw); refine congrArg some ?_; go_simp <;> with_reducible rfl)
              (try dsimp only []); (try simp only [Act.put, List.setIfInBounds_toArray, List.set_cons_zero, List.set_cons_succ])
              refine wpAnyH_yield (i := 10) 137 (v := ?_) (by kernel_rfl) (by kernel_rfl) (by kernel_rfl) (by kernel_rfl) (by kernel_rfl) (fun _ _ _ h => h) (by assumption) ?_ ?_
              rotate_left
              · (intro w hSw; (try dsimp only at hSw); refine congrArg some ?_; go_simp <;> with_reducible rfl)
              (try dsimp only []); (try simp only [Act.put, List.setIfInBounds_toArray, List.set_cons_zero, List.set_cons_succ])
              refine wpAnyH_yield (i := 11) 138 (v := ?_) (by kernel_rfl) (by kernel_rfl) (by kernel_rfl) (by kernel_rfl) (by kernel_rfl) (fun _ _ _ h => h) (by assumption) ?_ ?_
              rotate_left
              · (intro w hSw; (try dsimp only at hSw); refine congrArg some ?_; go_simp <;> with_reducible rfl)
              (try dsimp only []); (try simp only [Act.put, List.setIfInBounds_toArray, List.set_cons_zero, List.set_cons_succ])
              refine wpAnyH_yield (i := 12) 139 (v := ?_) (by kernel_rfl) (by kernel_rfl) (by kernel_rfl) (by kernel_rfl) (by kernel_rfl) (fun _ _ _ h => h) (by assumption) ?_ ?_
              rotate_left
              · (intro w hSw; (try dsimp only at hSw); refine congrArg some ?_; go_simp <;> with_reducible rfl)
              (try dsimp only []); (try simp only [Act.put, List.setIfInBounds_toArray, List.set_cons_zero, List.set_cons_succ])
              refine wpAnyH_yield (i := 13) 140 (v := ?_) (by kernel_rfl) (by kernel_rfl) (by kernel_rfl) (by kernel_rfl) (by kernel_rfl) (fun _ _ _ h => h) (by assumption) ?_ ?_
              rotate_left
              · (intro w hSw; (try dsimp only at hSw); refine congrArg some ?_; go_simp <;> with_reducible rfl)
              (try dsimp only []); (try simp only [Act.put, List.setIfInBounds_toArray, List.set_cons_zero, List.set_cons_succ])
              refine wpAnyH_yield (i := 14) 141 (v := ?_) (by kernel_rfl) (by kernel_rfl) (by kernel_rfl) (by kernel_rfl) (by kernel_rfl) (fun _ _ _ h => h) (by assumption) ?_ ?_
              rotate_left
              · (intro w hSw; (try dsimp only at hSw); refine congrArg some ?_; go_simp <;> with_reducible rfl)
              (try dsimp only []); (try simp only [Act.put, List.setIfInBounds_toArray, List.set_cons_zero, List.set_cons_succ])
              refine wpAnyH_yield (i := 15) 142 (v := ?_) (by kernel_rfl) (by kernel_rfl) (by kernel_rfl) (by kernel_rfl) (by kernel_rfl) (fun _ _ _ h => h) (by assumption) ?_ ?_
              rotate_left
              · (intro w hSw; (try dsimp only at hSw); refine congrArg some ?_; go_simp <;> with_reducible rfl)
              (try dsimp only []); (try simp only [Act.put, List.setIfInBounds_toArray, List.set_cons_zero, List.set_cons_succ])
              refine wpAnyH_yield (i := 16) 143 (v := ?_) (by kernel_rfl) (by kernel_rfl) (by kernel_rfl) (by kernel_rfl) (by kernel_rfl) (fun _ _ _ h => h) (by assumption) ?_ ?_
              rotate_left
              · (intro w hSw; (try dsimp only at hSw); refine congrArg some ?_; go_simp <;> with_reducible rfl)
              (try dsimp only []); (try simp only [Act.put, List.setIfInBounds_toArray, List.set_cons_zero, List.set_cons_succ])
              refine wpAnyH_yield (i := 17) 144 (v := ?_) (by kernel_rfl) (by kernel_rfl) (by kernel_rfl) (by kernel_rfl) (by kernel_rfl) (fun _ _ _ h => h) (by assumption) ?_ ?_
              rotate_left
              · (intro w hSw; (try dsimp only at hSw); refine congrArg some ?_; go_simp <;> with_reducible rfl)
              (try dsimp only []); (try simp only [Act.put, List.setIfInBounds_toArray, List.set_cons_zero, List.set_cons_succ])
              refine wpAnyH_skip (i := 18) 145 (by kernel_rfl) (by kernel_rfl) (by kernel_rfl) (by kernel_rfl) (by kernel_rfl) (fun _ _ _ h => h) (by assumption) ?_
              (try dsimp only []); (try simp only [Act.put, List.setIfInBounds_toArray, List.set_cons_zero, List.set_cons_succ])
              refine wpAnyH_skip (i := 19) 146 (by kernel_rfl) (by kernel_rfl) (by kernel_rfl) (by kernel_rfl) (by kernel_rfl) (fun _ _ _ h => h) (by assumption) ?_
              (try dsimp only []); (try simp only [Act.put, List.setIfInBounds_toArray, List.set_cons_zero, List.set_cons_succ])
              refine wpAnyH_skip (i := 20) 147 (by kernel_rfl) (by kernel_rfl) (by kernel_rfl) (by kernel_rfl) (by kernel_rfl) (fun _ _ _ h => h) (by assumption) ?_
              (try dsimp only []); (try simp only [Act.put, List.setIfInBounds_toArray, List.set_cons_zero, List.set_cons_succ])
              refine wpAnyH_skip (i := 21) 148 (by kernel_rfl) (by kernel_rfl) (by kernel_rfl) (by kernel_rfl) (by kernel_rfl) (fun _ _ _ h => h) (by assumption) ?_
              (try dsimp only []); (try simp only [Act.put, List.setIfInBounds_toArray, List.set_cons_zero, List.set_cons_succ])
              refine wpAnyH_skip (i := 22) 149 (by kernel_rfl) (by kernel_rfl) (by kernel_rfl) (by kernel_rfl) (by kernel_rfl) (fun _ _ _ h => h) (by assumption) ?_
              (try dsimp only []); (try simp only [Act.put, List.setIfInBounds_toArray, List.set_cons_zero, List.set_cons_succ])
              refine wpAnyH_skip (i := 23) 150 (by kernel_rfl) (by kernel_rfl) (by kernel_rfl) (by kernel_rfl) (by kernel_rfl) (fun _ _ _ h => h) (by assumption) ?_
              (try dsimp only []); (try simp only [Act.put, List.setIfInBounds_toArray, List.set_cons_zero, List.set_cons_succ])
              refine wpAnyH_yield (i := 24) 151 (v := ?_) (by kernel_rfl) (by kernel_rfl) (by kernel_rfl) (by kernel_rfl) (by kernel_rfl) (fun _ _ _ h => h) (by assumption) ?_ ?_
              rotate_left
              · (intro w hSw; (try dsimp only at hSw); refine congrArg some ?_; go_simp <;> with_reducible rfl)
              (try dsimp only []); (try simp only [Act.put, List.setIfInBounds_toArray, List.set_cons_zero, List.set_cons_succ])
              refine wpAnyH_yield (i := 25) 152 (v := ?_) (by kernel_rfl) (by kernel_rfl) (by kernel_rfl) (by kernel_rfl) (by kernel_rfl) (fun _ _ _ h => h) (by assumption) ?_ ?_
              rotate_left
              · (intro w hSw; (try dsimp only at hSw); refine congrArg some ?_; go_simp <;> with_reducible rfl)
              (try dsimp only []); (try simp only [Act.put, List.setIfInBounds_toArray, List.set_cons_zero, List.set_cons_succ])
              refine wpAnyH_yield (i := 26) 153 (v := ?_) (by kernel_rfl) (by kernel_rfl) (by kernel_rfl) (by kernel_rfl) (by kernel_rfl) (fun _ _ _ h => h) (by assumption) ?_ ?_
              rotate_left
              · (intro w hSw; (try dsimp only at hSw); refine congrArg some ?_; go_simp <;> with_reducible rfl)
              (try dsimp only []); (try simp only [Act.put, List.setIfInBounds_toArray, List.set_cons_zero, List.set_cons_succ])
              refine wpAnyH_yield (i := 27) 154 (v := ?_) (by kernel_rfl) (by kernel_rfl) (by kernel_rfl) (by kernel_rfl) (by kernel_rfl) (fun _ _ _ h => h) (by assumption) ?_ ?_
              rotate_left
              · (intro w hSw; (try dsimp only at hSw); refine congrArg some ?_; go_simp <;> with_reducible rfl)
              (try dsimp only []); (try simp only [Act.put, List.setIfInBounds_toArray, List.set_cons_zero, List.set_cons_succ])
              refine wpAnyH_yield (i := 28) 155 (v := ?_) (by kernel_rfl) (by kernel_rfl) (by kernel_rfl) (by kernel_rfl) (by kernel_rfl) (fun _ _ _ h => h) (by assumption) ?_ ?_
              rotate_left
              · (intro w hSw; (try dsimp only at hSw); refine congrArg some ?_; go_simp <;> with_reducible rfl)
              (try dsimp only []); (try simp only [Act.put, List.setIfInBounds_toArray, List.set_cons_zero, List.set_cons_succ])
              refine wpAnyH_yield (i := 29) 156 (v := ?_) (by kernel_rfl) (by kernel_rfl) (by kernel_rfl) (by kernel_rfl) (by kernel_rfl) (fun _ _ _ h => h) (by assumption) ?_ ?_
              rotate_left
              · (intro w hSw; (try dsimp only at hSw); refine congrArg some ?_; go_simp <;> with_reducible rfl)
              (try dsimp only []); (try simp only [Act.put, List.setIfInBounds_toArray, List.set_cons_zero, List.set_cons_succ])
              refine wpAnyH_yield (i := 30) 157 (v := ?_) (by kernel_rfl) (by kernel_rfl) (by kernel_rfl) (by kernel_rfl) (by kernel_rfl) (fun _ _ _ h => h) (by assumption) ?_ ?_
              rotate_left
              · (intro w hSw; (try dsimp only at hSw); refine congrArg some ?_; go_simp <;> with_reducible rfl)
              (try dsimp only []); (try simp only [Act.put, List.setIfInBounds_toArray, List.set_cons_zero, List.set_cons_succ])
              refine wpAnyH_yield (i := 31) 158 (v := ?_) (by kernel_rfl) (by kernel_rfl) (by kernel_rfl) (by kernel_rfl) (by kernel_rfl) (fun _ _ _ h => h) (by assumption) ?_ ?_
              rotate_left
              · (intro w hSw; (try dsimp only at hSw); refine congrArg some ?_; go_simp <;> with_reducible rfl)
              (try dsimp only []); (try simp only [Act.put, List.setIfInBounds_toArray, List.set_cons_zero, List.set_cons_succ])
              refine wpAnyH_yield (i := 32) 159 (v := ?_) (by kernel_rfl) (by kernel_rfl) (by kernel_rfl) (by kernel_rfl) (by kernel_rfl) (fun _ _ _ h => h) (by assumption) ?_ ?_
              rotate_left
              · (intro w hSw; (try dsimp only at hSw); refine congrArg some ?_; go_simp <;> with_reducible rfl)
              (try dsimp only []); (try simp only [Act.put, List.setIfInBounds_toArray, List.set_cons_zero, List.set_cons_succ])
              refine wpAnyH_yield (i := 33) 160 (v := ?_) (by kernel_rfl) (by kernel_rfl) (by kernel_rfl) (by kernel_rfl) (by kernel_rfl) (fun _ _ _ h => h) (by assumption) ?_ ?_
              rotate_left
              · (intro w hSw; (try dsimp only at hSw); refine congrArg some ?_; go_simp <;> with_reducible rfl)
              (try dsimp only []); (try simp only [Act.put, List.setIfInBounds_toArray, List.set_cons_zero, List.set_cons_succ])
              refine wpAnyH_yield (i := 34) 161 (v := ?_) (by kernel_rfl) (by kernel_rfl) (by kernel_rfl) (by kernel_rfl) (by kernel_rfl) (fun _ _ _ h => h) (by assumption) ?_ ?_
              rotate_left
              · (intro w hSw; (try dsimp only at hSw); refine congrArg some ?_; go_simp <;> with_reducible rfl)
              (try dsimp only []); (try simp only [Act.put, List.setIfInBounds_toArray, List.set_cons_zero, List.set_cons_succ])
              refine wpAnyH_yield (i := 35) 162 (v := ?_) (by kernel_rfl) (by kernel_rfl) (by kernel_rfl) (by kernel_rfl) (by kernel_rfl) (fun _ _ _ h => h) (by assumption) ?_ ?_
              rotate_left
              · (intro w hSw; (try dsimp only at hSw); refine congrArg some ?_; go_simp <;> with_reducible rfl)
              (try dsimp only []); (try simp only [Act.put, List.setIfInBounds_toArray, List.set_cons_zero, List.set_cons_succ])
              refine wpAnyH_yield (i := 36) 163 (v := ?_) (by kernel_rfl) (by kernel_rfl) (by kernel_rfl) (by kernel_rfl) (by kernel_rfl) (fun _ _ _ h => h) (by assumption) ?_ ?_
              rotate_left
              · (intro w hSw; (try dsimp only at hSw); refine congrArg some ?_; go_simp <;> with_reducible rfl)
              (try dsimp only []); (try simp only [Act.put, List.setIfInBounds_toArray, List.set_cons_zero, List.set_cons_succ])
              refine wpAnyH_yield (i := 37) 164 (v := ?_) (by kernel_rfl) (by kernel_rfl) (by kernel_rfl) (by kernel_rfl) (by kernel_rfl) (fun _ _ _ h => h) (by assumption) ?_ ?_
              rotate_left
              · (intro w hSw; (try dsimp only at hSw); refine congrArg some ?_; go_simp <;> with_reducible rfl)
              (try dsimp only []); (try simp only [Act.put, List.setIfInBounds_toArray, List.set_cons_zero, List.set_cons_succ])
              refine wpAnyH_yield (i := 38) 165 (v := ?_) (by kernel_rfl) (by kernel_rfl) (by kernel_rfl) (by kernel_rfl) (by kernel_rfl) (fun _ _ _ h => h) (by assumption) ?_ ?_
              rotate_left
              · (intro w hSw; (try dsimp only at hSw); refine congrArg some ?_; go_simp <;> with_reducible rfl)
              (try dsimp only []); (try simp only [Act.put, List.setIfInBounds_toArray, List.set_cons_zero, List.set_cons_succ])
              refine wpAnyH_yield (i := 39) 166 (v := ?_) (by kernel_rfl) (by kernel_rfl) (by kernel_rfl) (by kernel_rfl) (by kernel_rfl) (fun _ _ _ h => h) (by assumption) ?_ ?_
              rotate_left
              · (intro w hSw; (try dsimp only at hSw); refine congrArg some ?_; go_simp <;> with_reducible rfl)
              (try dsimp only []); (try simp only [Act.put, List.setIfInBounds_toArray, List.set_cons_zero, List.set_cons_succ])
              refine wpAnyH_yield (i := 40) 167 (v := ?_) (by kernel_rfl) (by kernel_rfl) (by kernel_rfl) (by kernel_rfl) (by kernel_rfl) (fun _ _ _ h => h) (by assumption) ?_ ?_
              rotate_left
              · (intro w hSw; (try dsimp only at hSw); refine congrArg some ?_; go_simp <;> with_reducible rfl)
              (try dsimp only []); (try simp only [Act.put, List.setIfInBounds_toArray, List.set_cons_zero, List.set_cons_succ])
              refine wpAnyH_yield (i := 41) 168 (v := ?_) (by kernel_rfl) (by kernel_rfl) (by kernel_rfl) (by kernel_rfl) (by kernel_rfl) (fun _ _ _ h => h) (by assumption) ?_ ?_
              rotate_left
              · (intro w hSw; (try dsimp only at hSw); refine congrArg some ?_; go_simp <;> with_reducible rfl)
              (try dsimp only []); (try simp only [Act.put, List.setIfInBounds_toArray, List.set_cons_zero, List.set_cons_succ])
              refine wpAnyH_yield (i := 42) 169 (v := ?_) (by kernel_rfl) (by kernel_rfl) (by kernel_rfl) (by kernel_rfl) (by kernel_rfl) (fun _ _ _ h => h) (by assumption) ?_ ?_
              rotate_left
              · (intro w hSw; (try dsimp only at hSw); refine congrArg some ?_; go_simp <;> with_reducible rfl)
              (try dsimp only []); (try simp only [Act.put, List.setIfInBounds_toArray, List.set_cons_zero, List.set_cons_succ])
              refine wpAnyH_yield (i := 43) 170 (v := ?_) (by kernel_rfl) (by kernel_rfl) (by kernel_rfl) (by kernel_rfl) (by kernel_rfl) (fun _ _ _ h => h) (by assumption) ?_ ?_
              rotate_left
              · (intro w hSw; (try dsimp only at hSw); refine congrArg some ?_; go_simp <;> with_reducible rfl)
              (try dsimp only []); (try simp only [Act.put, List.setIfInBounds_toArray, List.set_cons_zero, List.set_cons_succ])
              refine wpAnyH_yield (i := 44) 171 (v := ?_) (by kernel_rfl) (by kernel_rfl) (by kernel_rfl) (by kernel_rfl) (by kernel_rfl) (fun _ _ _ h => h) (by assumption) ?_ ?_
              rotate_left
              · (intro w hSw; (try dsimp only at hSw); refine congrArg some ?_; go_simp <;> with_reducible rfl)
              (try dsimp only []); (try simp only [Act.put, List.setIfInBounds_toArray, List.set_cons_zero, List.set_cons_succ])
              refine wpAnyH_yield (i := 45) 172 (v := ?_) (by kernel_rfl) (by kernel_rfl) (by kernel_rfl) (by kernel_rfl) (by kernel_rfl) (fun _ _ _ h => h) (by assumption) ?_ ?_
              rotate_left
              · (intro w hSw; (try dsimp only at hSw); refine congrArg some ?_; go_simp <;> with_reducible rfl)
              (try dsimp only []); (try simp only [Act.put, List.setIfInBounds_toArray, List.set_cons_zero, List.set_cons_succ])
              refine wpAnyH_yield (i := 46) 173 (v := ?_) (by kernel_rfl) (by kernel_rfl) (by kernel_rfl) (by kernel_rfl) (by kernel_rfl) (fun _ _ _ h => h) (by assumption) ?_ ?_
              rotate_left
              · (intro w hSw; (try dsimp only at hSw); refine congrArg some ?_; go_simp <;> with_reducible rfl)
              (try dsimp only []); (try simp only [Act.put, List.setIfInBounds_toArray, List.set_cons_zero, List.set_cons_succ])
              refine wpAnyH_yield (i := 47) 174 (v := ?_) (by kernel_rfl) (by kernel_rfl) (by kernel_rfl) (by kernel_rfl) (by kernel_rfl) (fun _ _ _ h => h) (by assumption) ?_ ?_
              rotate_left
              · (intro w hSw; (try dsimp only at hSw); refine congrArg some ?_; go_simp <;> with_reducible rfl)
              (try dsimp only []); (try simp only [Act.put, List.setIfInBounds_toArray, List.set_cons_zero, List.set_cons_succ])
              refine wpAnyH_done (by kernel_rfl) ?_ _
              obtain ⟨q0, q1, q2, _⟩ := hHeld
              go_wp2_with fail
              go_roundw
              case rel => exact ⟨k + 1, rp + rn, by go_num, by omega, by go_num, fun h => (hnx.out.1 h).symm, hnx.out.2, by rw [HFX.out]; rfl, by rw [HCW.out, HTS.out, if_pos trivial, List.length_append]; rfl, HB.out.drew⟩
              case measure => simp [intOf]; omega
            | true =>
              go_wp2_with fail
              refine wp_region_held_drew (S := fun w' => w'.cell? ⟨g5, k * 3, none⟩ = some (.int .i64 rp) ∧ w'.cell? ⟨g5, k * 3 + 1, none⟩ = some (.int .i64 rn) ∧ w'.cell? ⟨g5, k * 3 + 2, none⟩ = some (.bool true) ∧ (Instr.lookup 107 (.map (some mb)) (.int .i64 (rp : Nat)) false).run Try.prog w' = .ok (.int .i64 (rn : Nat)) w') (by kernel_rfl) ?_ (fun hHeld => ?_)
              · (try dsimp only); exact ⟨k0, k1, k2, hlk⟩
              refine wpAnyH_yield (i := 0) 127 (v := ?_) (by kernel_rfl) (by kernel_rfl) (by kernel_rfl) (by kernel_rfl) (by kernel_rfl) (fun _ _ _ h => h) (by assumption) ?_ ?_
              rotate_left
              · (intro w hSw; (try dsimp only at hSw); refine congrArg some ?_; go_simp <;> with_reducible rfl)
              (try dsimp only []); (try simp only [Act.put, List.setIfInBounds_toArray, List.set_cons_zero, List.set_cons_succ])
              refine wpAnyH_yield (i := 1) 128 (v := ?_) (by kernel_rfl) (by kernel_rfl) (by kernel_rfl) (by kernel_rfl) (by kernel_rfl) (fun _ _ _ h => h) (by assumption) ?_ ?_
              rotate_left
              · (intro w hSw; (try dsimp only at hSw); refine congrArg some ?_; go_simp <;> with_reducible rfl)
              (try dsimp only []); (try simp only [Act.put, List.setIfInBounds_toArray, List.set_cons_zero, List.set_cons_succ])
              refine wpAnyH_yield (i := 2) 129 (v := ?_) (by kernel_rfl) (by kernel_rfl) (by kernel_rfl) (by kernel_rfl) (by kernel_rfl) (fun _ _ _ h => h) (by assumption) ?_ ?_
              rotate_left
              · (intro w hSw; (try dsimp only at hSw); refine congrArg some ?_; go_simp <;> with_reducible rfl)
              (try dsimp only []); (try simp only [Act.put, List.setIfInBounds_toArray, List.set_cons_zero, List.set_cons_succ])
              refine wpAnyH_yield (i := 3) 130 (v := ?_) (by kernel_rfl) (by kernel_rfl) (by kernel_rfl) (by kernel_rfl) (by kernel_rfl) (fun _ _ _ h => h) (by assumption) ?_ ?_
              rotate_left
              · (intro w hSw; (try dsimp only at hSw); refine congrArg some ?_; go_simp <;> with_reducible rfl)
              (try dsimp only []); (try simp only [Act.put, List.setIfInBounds_toArray, List.set_cons_zero, List.set_cons_succ])
              refine wpAnyH_yield (i := 4) 131 (v := ?_) (by kernel_rfl) (by kernel_rfl) (by kernel_rfl) (by kernel_rfl) (by kernel_rfl) (fun _ _ _ h => h) (by assumption) ?_ ?_
              rotate_left
              · (intro w hSw; (try dsimp only at hSw); refine congrArg some ?_; go_simp <;> with_reducible rfl)
              (try dsimp only []); (try simp only [Act.put, List.setIfInBounds_toArray, List.set_cons_zero, List.set_cons_succ])
              refine wpAnyH_yield (i := 5) 132 (v := ?_) (by kernel_rfl) (by kernel_rfl) (by kernel_rfl) (by kernel_rfl) (by kernel_rfl) (fun _ _ _ h => h) (by assumption) ?_ ?_
              rotate_left
              · (intro w hSw; (try dsimp only at hSw); refine congrArg some ?_; go_simp <;> with_reducible rfl)
              (try dsimp only []); (try simp only [Act.put, List.setIfInBounds_toArray, List.set_cons_zero, List.set_cons_succ])
              refine wpAnyH_yield (i := 6) 133 (v := ?_) (by kernel_rfl) (by kernel_rfl) (by kernel_rfl) (by kernel_rfl) (by kernel_rfl) (fun _ _ _ h => h) (by assumption) ?_ ?_
              rotate_left
              · (intro w hSw; (try dsimp only at hSw); refine congrArg some ?_; go_simp <;> with_reducible rfl)
              (try dsimp only []); (try simp only [Act.put, List.setIfInBounds_toArray, List.set_cons_zero, List.set_cons_succ])
              refine wpAnyH_yield (i := 7) 134 (v := ?_) (by kernel_rfl) (by kernel_rfl) (by kernel_rfl) (by kernel_rfl) (by kernel_rfl) (fun _ _ _ h => h) (by assumption) ?_ ?_
              rotate_left
              · (intro w hSw; (try dsimp only at hSw); refine congrArg some ?_; go_simp <;> with_reducible rfl)
              (try dsimp only []); (try simp only [Act.put, List.setIfInBounds_toArray, List.set_cons_zero, List.set_cons_succ])
              refine wpAnyH_yield (i := 8) 135 (v := ?_) (by kernel_rfl) (by kernel_rfl) (by kernel_rfl) (by kernel_rfl) (by kernel_rfl) (fun _ _ _ h => h) (by assumption) ?_ ?_
              rotate_left
              · (intro w hSw; (try dsimp only at hSw); refine congrArg some ?_; go_simp <;> with_reducible rfl)
              (try dsimp only []); (try simp only [Act.put, List.setIfInBounds_toArray, List.set_cons_zero, List.set_cons_succ])
              refine wpAnyH_yield (i := 9) 136 (v := ?_) (by kernel_rfl) (by kernel_rfl) (by kernel_rfl) (by kernel_rfl) (by kernel_rfl) (fun _ _ _ h => h) (by assumption) ?_ ?_
              rotate_left
              · (intro w hSw; (try dsimp only at hSw); refine congrArg some ?_; go_simp <;> with_reducible rfl)
              (try dsimp only []); (try simp only [Act.put, List.setIfInBounds_toArray, List.set_cons_zero, List.set_cons_succ])
              refine wpAnyH_yield (i := 10) 137 (v := ?_) (by kernel_rfl) (by kernel_rfl) (by kernel_rfl) (by kernel_rfl) (by kernel_rfl) (fun _ _ _ h => h) (by assumption) ?_ ?_
              rotate_left
              · (intro w hSw; (try dsimp only at hSw); refine congrArg some ?_; go_simp <;> with_reducible rfl)
              (try dsimp only []); (try simp only [Act.put, List.setIfInBounds_toArray, List.set_cons_zero, List.set_cons_succ])
              refine wpAnyH_yield (i := 11) 138 (v := ?_) (by kernel_rfl) (by kernel_rfl) (by kernel_rfl) (by kernel_rfl) (by kernel_rfl) (fun _ _ _ h => h) (by assumption) ?_ ?_
              rotate_left
              · (intro w hSw; (try dsimp only at hSw); refine congrArg some ?_; go_simp <;> with_reducible rfl)
              (try dsimp only []); (try simp only [Act.put, List.setIfInBounds_toArray, List.set_cons_zero, List.set_cons_succ])
              refine wpAnyH_yield (i := 12) 139 (v := ?_) (by kernel_rfl) (by kernel_rfl) (by kernel_rfl) (by kernel_rfl) (by kernel_rfl) (fun _ _ _ h => h) (by assumption) ?_ ?_
              rotate_left
              · (intro w hSw; (try dsimp only at hSw); refine congrArg some ?_; go_simp <;> with_reducible rfl)
              (try dsimp only []); (try simp only [Act.put, List.setIfInBounds_toArray, List.set_cons_zero, List.set_cons_succ])
              refine wpAnyH_yield (i := 13) 140 (v := ?_) (by kernel_rfl) (by kernel_rfl) (by kernel_rfl) (by kernel_rfl) (by kernel_rfl) (fun _ _ _ h => h) (by assumption) ?_ ?_
              rotate_left
              · (intro w hSw; (try dsimp only at hSw); refine congrArg some ?_; go_simp <;> with_reducible rfl)
              (try dsimp only []); (try simp only [Act.put, List.setIfInBounds_toArray, List.set_cons_zero, List.set_cons_succ])
              refine wpAnyH_yield (i := 14) 141 (v := ?_) (by kernel_rfl) (by kernel_rfl) (by kernel_rfl) (by kernel_rfl) (by kernel_rfl) (fun _ _ _ h => h) (by assumption) ?_ ?_
              rotate_left
              · (intro w hSw; (try dsimp only at hSw); refine congrArg some ?_; go_simp <;> with_reducible rfl)
              (try dsimp only []); (try simp only [Act.put, List.setIfInBounds_toArray, List.set_cons_zero, List.set_cons_succ])
              refine wpAnyH_yield (i := 15) 142 (v := ?_) (by kernel_rfl) (by kernel_rfl) (by kernel_rfl) (by kernel_rfl) (by kernel_rfl) (fun _ _ _ h => h) (by assumption) ?_ ?_
              rotate_left
              · (intro w hSw; (try dsimp only at hSw); refine congrArg some ?_; go_simp <;> with_reducible rfl)
              (try dsimp only []); (try simp only [Act.put, List.setIfInBounds_toArray, List.set_cons_zero, List.set_cons_succ])
              refine wpAnyH_yield (i := 16) 143 (v := ?_) (by kernel_rfl) (by kernel_rfl) (by kernel_rfl) (by kernel_rfl) (by kernel_rfl) (fun _ _ _ h => h) (by assumption) ?_ ?_
              rotate_left
              · (intro w hSw; (try dsimp only at hSw); refine congrArg some ?_; go_simp <;> with_reducible rfl)
              (try dsimp only []); (try simp only [Act.put, List.setIfInBounds_toArray, List.set_cons_zero, List.set_cons_succ])
              refine wpAnyH_yield (i := 17) 144 (v := ?_) (by kernel_rfl) (by kernel_rfl) (by kernel_rfl) (by kernel_rfl) (by kernel_rfl) (fun _ _ _ h => h) (by assumption) ?_ ?_
              rotate_left
              · (intro w hSw; (try dsimp only at hSw); refine congrArg some ?_; go_simp <;> with_reducible rfl)
              (try dsimp only []); (try simp only [Act.put, List.setIfInBounds_toArray, List.set_cons_zero, List.set_cons_succ])
              refine wpAnyH_yield (i := 18) 145 (v := ?_) (by kernel_rfl) (by kernel_rfl) (by kernel_rfl) (by kernel_rfl) (by kernel_rfl) (fun _ _ _ h => h) (by assumption) ?_ ?_
              rotate_left
              · (intro w hSw; (try dsimp only at hSw); refine congrArg some ?_; go_simp <;> with_reducible rfl)
              (try dsimp only []); (try simp only [Act.put, List.setIfInBounds_toArray, List.set_cons_zero, List.set_cons_succ])
              refine wpAnyH_yield (i := 19) 146 (v := ?_) (by kernel_rfl) (by kernel_rfl) (by kernel_rfl) (by kernel_rfl) (by kernel_rfl) (fun _ _ _ h => h) (by assumption) ?_ ?_
              rotate_left
              · (intro w hSw; (try dsimp only at hSw); refine congrArg some ?_; go_simp <;> with_reducible rfl)
              (try dsimp only []); (try simp only [Act.put, List.setIfInBounds_toArray, List.set_cons_zero, List.set_cons_succ])
              refine wpAnyH_yield (i := 20) 147 (v := ?_) (by kernel_rfl) (by kernel_rfl) (by kernel_rfl) (by kernel_rfl) (by kernel_rfl) (fun _ _ _ h => h) (by assumption) ?_ ?_
              rotate_left
              · (intro w hSw; (try dsimp only at hSw); refine congrArg some ?_; go_simp <;> with_reducible rfl)
              (try dsimp only []); (try simp only [Act.put, List.setIfInBounds_toArray, List.set_cons_zero, List.set_cons_succ])
              refine wpAnyH_yield (i := 21) 148 (v := ?_) (by kernel_rfl) (by kernel_rfl) (by kernel_rfl) (by kernel_rfl) (by kernel_rfl) (fun _ _ _ h => h) (by assumption) ?_ ?_
              rotate_left
              · (intro w hSw; (try dsimp only at hSw); refine congrArg some ?_; go_simp <;> with_reducible rfl)
              (try dsimp only []); (try simp only [Act.put, List.setIfInBounds_toArray, List.set_cons_zero, List.set_cons_succ])
              refine wpAnyH_yield (i := 22) 149 (v := ?_) (by kernel_rfl) (by kernel_rfl) (by kernel_rfl) (by kernel_rfl) (by kernel_rfl) (fun _ _ _ h => h) (by assumption) ?_ ?_
              rotate_left
              · (intro w hSw; (try dsimp only at hSw); refine congrArg some ?_; go_simp <;> with_reducible rfl)
              (try dsimp only []); (try simp only [Act.put, List.setIfInBounds_toArray, List.set_cons_zero, List.set_cons_succ])
              refine wpAnyH_yield (i := 23) 150 (v := ?_) (by kernel_rfl) (by kernel_rfl) (by kernel_rfl) (by kernel_rfl) (by kernel_rfl) (fun _ _ _ h => h) (by assumption) ?_ ?_
              rotate_left
              · (intro w hSw; (try dsimp only at hSw); refine congrArg some ?_; go_simp <;> with_reducible rfl)
              (try dsimp only []); (try simp only [Act.put, List.setIfInBounds_toArray, List.set_cons_zero, List.set_cons_succ])
              refine wpAnyH_yield (i := 24) 151 (v := ?_) (by kernel_rfl) (by kernel_rfl) (by kernel_rfl) (by kernel_rfl) (by kernel_rfl) (fun _ _ _ h => h) (by assumption) ?_ ?_
              rotate_left
              · (intro w hSw; (try dsimp only at hSw); refine congrArg some ?_; go_simp <;> with_reducible rfl)
              (try dsimp only []); (try simp only [Act.put, List.setIfInBounds_toArray, List.set_cons_zero, List.set_cons_succ])
              refine wpAnyH_yield (i := 25) 152 (v := ?_) (by kernel_rfl) (by kernel_rfl) (by kernel_rfl) (by kernel_rfl) (by kernel_rfl) (fun _ _ _ h => h) (by assumption) ?_ ?_
              rotate_left
              · (intro w hSw; (try dsimp only at hSw); refine congrArg some ?_; go_simp <;> with_reducible rfl)
              (try dsimp only []); (try simp only [Act.put, List.setIfInBounds_toArray, List.set_cons_zero, List.set_cons_succ])
              refine wpAnyH_yield (i := 26) 153 (v := ?_) (by kernel_rfl) (by kernel_rfl) (by kernel_rfl) (by kernel_rfl) (by kernel_rfl) (fun _ _ _ h => h) (by assumption) ?_ ?_
              rotate_left
              · (intro w hSw; (try dsimp only at hSw); refine congrArg some ?_; go_simp <;> with_reducible rfl)
              (try dsimp only []); (try simp only [Act.put, List.setIfInBounds_toArray, List.set_cons_zero, List.set_cons_succ])
              refine wpAnyH_yield (i := 27) 154 (v := ?_) (by kernel_rfl) (by kernel_rfl) (by kernel_rfl) (by kernel_rfl) (by kernel_rfl) (fun _ _ _ h => h) (by assumption) ?_ ?_
              rotate_left
              · (intro w hSw; (try dsimp only at hSw); refine congrArg some ?_; go_simp <;> with_reducible rfl)
              (try dsimp only []); (try simp only [Act.put, List.setIfInBounds_toArray, List.set_cons_zero, List.set_cons_succ])
              refine wpAnyH_yield (i := 28) 155 (v := ?_) (by kernel_rfl) (by kernel_rfl) (by kernel_rfl) (by kernel_rfl) (by kernel_rfl) (fun _ _ _ h => h) (by assumption) ?_ ?_
              rotate_left
              · (intro w hSw; (try dsimp only at hSw); refine congrArg some ?_; go_simp <;> with_reducible rfl)
              (try dsimp only []); (try simp only [Act.put, List.setIfInBounds_toArray, List.set_cons_zero, List.set_cons_succ])
              refine wpAnyH_yield (i := 29) 156 (v := ?_) (by kernel_rfl) (by kernel_rfl) (by kernel_rfl) (by kernel_rfl) (by kernel_rfl) (fun _ _ _ h => h) (by assumption) ?_ ?_
              rotate_left
              · (intro w hSw; (try dsimp only at hSw); refine congrArg some ?_; go_simp <;> with_reducible rfl)
              (try dsimp only []); (try simp only [Act.put, List.setIfInBounds_toArray, List.set_cons_zero, List.set_cons_succ])
              refine wpAnyH_yield (i := 30) 157 (v := ?_) (by kernel_rfl) (by kernel_rfl) (by kernel_rfl) (by kernel_rfl) (by kernel_rfl) (fun _ _ _ h => h) (by assumption) ?_ ?_
              rotate_left
              · (intro w hSw; (try dsimp only at hSw); refine congrArg some ?_; go_simp <;> with_reducible rfl)
              (try dsimp only []); (try simp only [Act.put, List.setIfInBounds_toArray, List.set_cons_zero, List.set_cons_succ])
              refine wpAnyH_yield (i := 31) 158 (v := ?_) (by kernel_rfl) (by kernel_rfl) (by kernel_rfl) (by kernel_rfl) (by kernel_rfl) (fun _ _ _ h => h) (by assumption) ?_ ?_
              rotate_left
              · (intro w hSw; (try dsimp only at hSw); refine congrArg some ?_; go_simp <;> with_reducible rfl)
              (try dsimp only []); (try simp only [Act.put, List.setIfInBounds_toArray, List.set_cons_zero, List.set_cons_succ])
              refine wpAnyH_yield (i := 32) 159 (v := ?_) (by kernel_rfl) (by kernel_rfl) (by kernel_rfl) (by kernel_rfl) (by kernel_rfl) (fun _ _ _ h => h) (by assumption) ?_ ?_
              rotate_left
              · (intro w hSw; (try dsimp only at hSw); refine congrArg some ?_; go_simp <;> with_reducible rfl)
              (try dsimp only []); (try simp only [Act.put, List.setIfInBounds_toArray, List.set_cons_zero, List.set_cons_succ])
              refine wpAnyH_yield (i := 33) 160 (v := ?_) (by kernel_rfl) (by kernel_rfl) (by kernel_rfl) (by kernel_rfl) (by kernel_rfl) (fun _ _ _ h => h) (by assumption) ?_ ?_
              rotate_left
              · (intro w hSw; (try dsimp only at hSw); refine congrArg some ?_; go_simp <;> with_reducible rfl)
              (try dsimp only []); (try simp only [Act.put, List.setIfInBounds_toArray, List.set_cons_zero, List.set_cons_succ])
              refine wpAnyH_yield (i := 34) 161 (v := ?_) (by kernel_rfl) (by kernel_rfl) (by kernel_rfl) (by kernel_rfl) (by kernel_rfl) (fun _ _ _ h => h) (by assumption) ?_ ?_
              rotate_left
              · (intro w hSw; (try dsimp only at hSw); refine congrArg some ?_; go_simp <;> with_reducible rfl)
              (try dsimp only []); (try simp only [Act.put, List.setIfInBounds_toArray, List.set_cons_zero, List.set_cons_succ])
              refine wpAnyH_yield (i := 35) 162 (v := ?_) (by kernel_rfl) (by kernel_rfl) (by kernel_rfl) (by kernel_rfl) (by kernel_rfl) (fun _ _ _ h => h) (by assumption) ?_ ?_
              rotate_left
              · (intro w hSw; (try dsimp only at hSw); refine congrArg some ?_; go_simp <;> with_reducible rfl)
              (try dsimp only []); (try simp only [Act.put, List.setIfInBounds_toArray, List.set_cons_zero, List.set_cons_succ])
              refine wpAnyH_yield (i := 36) 163 (v := ?_) (by kernel_rfl) (by kernel_rfl) (by kernel_rfl) (by kernel_rfl) (by kernel_rfl) (fun _ _ _ h => h) (by assumption) ?_ ?_
              rotate_left
              · (intro w hSw; (try dsimp only at hSw); refine congrArg some ?_; go_simp <;> with_reducible rfl)
              (try dsimp only []); (try simp only [Act.put, List.setIfInBounds_toArray, List.set_cons_zero, List.set_cons_succ])
              refine wpAnyH_yield (i := 37) 164 (v := ?_) (by kernel_rfl) (by kernel_rfl) (by kernel_rfl) (by kernel_rfl) (by kernel_rfl) (fun _ _ _ h => h) (by assumption) ?_ ?_
              rotate_left
              · (intro w hSw; (try dsimp only at hSw); refine congrArg some ?_; go_simp <;> with_reducible rfl)
              (try dsimp only []); (try simp only [Act.put, List.setIfInBounds_toArray, List.set_cons_zero, List.set_cons_succ])
              refine wpAnyH_yield (i := 38) 165 (v := ?_) (by kernel_rfl) (by kernel_rfl) (by kernel_rfl) (by kernel_rfl) (by kernel_rfl) (fun _ _ _ h => h) (by assumption) ?_ ?_
              rotate_left
              · (intro w hSw; (try dsimp only at hSw); refine congrArg some ?_; go_simp <;> with_reducible rfl)
              (try dsimp only []); (try simp only [Act.put, List.setIfInBounds_toArray, List.set_cons_zero, List.set_cons_succ])
              refine wpAnyH_yield (i := 39) 166 (v := ?_) (by kernel_rfl) (by kernel_rfl) (by kernel_rfl) (by kernel_rfl) (by kernel_rfl) (fun _ _ _ h => h) (by assumption) ?_ ?_
              rotate_left
              · (intro w hSw; (try dsimp only at hSw); refine congrArg some ?_; go_simp <;> with_reducible rfl)
              (try dsimp only []); (try simp only [Act.put, List.setIfInBounds_toArray, List.set_cons_zero, List.set_cons_succ])
              refine wpAnyH_yield (i := 40) 167 (v := ?_) (by kernel_rfl) (by kernel_rfl) (by kernel_rfl) (by kernel_rfl) (by kernel_rfl) (fun _ _ _ h => h) (by assumption) ?_ ?_
              rotate_left
              · (intro w hSw; (try dsimp only at hSw); refine congrArg some ?_; go_simp <;> with_reducible rfl)
              (try dsimp only []); (try simp only [Act.put, List.setIfInBounds_toArray, List.set_cons_zero, List.set_cons_succ])
              refine wpAnyH_yield (i := 41) 168 (v := ?_) (by kernel_rfl) (by kernel_rfl) (by kernel_rfl) (by kernel_rfl) (by kernel_rfl) (fun _ _ _ h => h) (by assumption) ?_ ?_
              rotate_left
              · (intro w hSw; (try dsimp only at hSw); refine congrArg some ?_; go_simp <;> with_reducible rfl)
              (try dsimp only []); (try simp only [Act.put, List.setIfInBounds_toArray, List.set_cons_zero, List.set_cons_succ])
              refine wpAnyH_yield (i := 42) 169 (v := ?_) (by kernel_rfl) (by kernel_rfl) (by kernel_rfl) (by kernel_rfl) (by kernel_rfl) (fun _ _ _ h => h) (by assumption) ?_ ?_
              rotate_left
              · (intro w hSw; (try dsimp only at hSw); refine congrArg some ?_; go_simp <;> with_reducible rfl)
              (try dsimp only []); (try simp only [Act.put, List.setIfInBounds_toArray, List.set_cons_zero, List.set_cons_succ])
              refine wpAnyH_yield (i := 43) 170 (v := ?_) (by kernel_rfl) (by kernel_rfl) (by kernel_rfl) (by kernel_rfl) (by kernel_rfl) (fun _ _ _ h => h) (by assumption) ?_ ?_
              rotate_left
              · (intro w hSw; (try dsimp only at hSw); refine congrArg some ?_; go_simp <;> with_reducible rfl)
              (try dsimp only []); (try simp only [Act.put, List.setIfInBounds_toArray, List.set_cons_zero, List.set_cons_succ])
              refine wpAnyH_yield (i := 44) 171 (v := ?_) (by kernel_rfl) (by kernel_rfl) (by kernel_rfl) (by kernel_rfl) (by kernel_rfl) (fun _ _ _ h => h) (by assumption) ?_ ?_
              rotate_left
              · (intro w hSw; (try dsimp only at hSw); refine congrArg some ?_; go_simp <;> with_reducible rfl)
              (try dsimp only []); (try simp only [Act.put, List.setIfInBounds_toArray, List.set_cons_zero, List.set_cons_succ])
              refine wpAnyH_yield (i := 45) 172 (v := ?_) (by kernel_rfl) (by kernel_rfl) (by kernel_rfl) (by kernel_rfl) (by kernel_rfl) (fun _ _ _ h => h) (by assumption) ?_ ?_
              rotate_left
              · (intro w hSw; (try dsimp only at hSw); refine congrArg some ?_; go_simp <;> with_reducible rfl)
              (try dsimp only []); (try simp only [Act.put, List.setIfInBounds_toArray, List.set_cons_zero, List.set_cons_succ])
              refine wpAnyH_yield (i := 46) 173 (v := ?_) (by kernel_rfl) (by kernel_rfl) (by kernel_rfl) (by kernel_rfl) (by kernel_rfl) (fun _ _ _ h => h) (by assumption) ?_ ?_
              rotate_left
              · (intro w hSw; (try dsimp only at hSw); refine congrArg some ?_; go_simp <;> with_reducible rfl)
              (try dsimp only []); (try simp only [Act.put, List.setIfInBounds_toArray, List.set_cons_zero, List.set_cons_succ])
              refine wpAnyH_yield (i := 47) 174 (v := ?_) (by kernel_rfl) (by kernel_rfl) (by kernel_rfl) (by kernel_rfl) (by kernel_rfl) (fun _ _ _ h => h) (by assumption) ?_ ?_
              rotate_left
              · (intro w hSw; (try dsimp only at hSw); refine congrArg some ?_; go_simp <;> with_reducible rfl)
              (try dsimp only []); (try simp only [Act.put, List.setIfInBounds_toArray, List.set_cons_zero, List.set_cons_succ])
              refine wpAnyH_done (by kernel_rfl) ?_ _
              obtain ⟨q0, q1, q2, _⟩ := hHeld
              go_wp2_with fail
              go_roundw
              case rel => exact ⟨k + 1, rp + rn, by go_num, by omega, by go_num, fun h => (hnx.out.1 h).symm, hnx.out.2, by rw [HFX.out]; rfl, by rw [HCW.out, HTS.out, if_pos trivial, List.length_append]; rfl, HB.out.drew⟩
              case measure => simp [intOf]; omega
          | false =>
            have hfb2 : fb = false := by
              cases fb
              · rfl
              · have := hfr rfl
                cases this
            subst hfb2
            clear hfr hlk
            go_wp2_with fail
            refine wp_region_held_drew (S := fun w' => w'.cell? ⟨g5, k * 3, none⟩ = some (.int .i64 rp) ∧ w'.cell? ⟨g5, k * 3 + 1, none⟩ = some (.int .i64 rn) ∧ w'.cell? ⟨g5, k * 3 + 2, none⟩ = some (.bool false)) (by kernel_rfl) ?_ (fun hHeld => ?_)
            · (try dsimp only); exact ⟨k0, k1, k2⟩
            refine wpAnyH_yield (i := 0) 127 (v := ?_) (by kernel_rfl) (by kernel_rfl) (by kernel_rfl) (by kernel_rfl) (by kernel_rfl) (fun _ _ _ h => h) (by assumption) ?_ ?_
            rotate_left
            · (intro w hSw; (try dsimp only at hSw); refine congrArg some ?_; go_simp <;> with_reducible rfl)
            (try dsimp only []); (try simp only [Act.put, List.setIfInBounds_toArray, List.set_cons_zero, List.set_cons_succ])
            refine wpAnyH_yield (i := 1) 128 (v := ?_) (by kernel_rfl) (by kernel_rfl) (by kernel_rfl) (by kernel_rfl) (by kernel_rfl) (fun _ _ _ h => h) (by assumption) ?_ ?_
            rotate_left
            · (intro w hSw; (try dsimp only at hSw); refine congrArg some ?_; go_simp <;> with_reducible rfl)
            (try dsimp only []); (try simp only [Act.put, List.setIfInBounds_toArray, List.set_cons_zero, List.set_cons_succ])
            refine wpAnyH_yield (i := 2) 129 (v := ?_) (by kernel_rfl) (by kernel_rfl) (by kernel_rfl) (by kernel_rfl) (by kernel_rfl) (fun _ _ _ h => h) (by assumption) ?_ ?_
            rotate_left
            · (intro w hSw; (try dsimp only at hSw); refine congrArg some ?_; go_simp <;> with_reducible rfl)
            (try dsimp only []); (try simp only [Act.put, List.setIfInBounds_toArray, List.set_cons_zero, List.set_cons_succ])
            refine wpAnyH_yield (i := 3) 130 (v := ?_) (by kernel_rfl) (by kernel_rfl) (by kernel_rfl) (by kernel_rfl) (by kernel_rfl) (fun _ _ _ h => h) (by assumption) ?_ ?_
            rotate_left
            · (intro w hSw; (try dsimp only at hSw); refine congrArg some ?_; go_simp <;> with_reducible rfl)
            (try dsimp only []); (try simp only [Act.put, List.setIfInBounds_toArray, List.set_cons_zero, List.set_cons_succ])
            refine wpAnyH_yield (i := 4) 131 (v := ?_) (by kernel_rfl) (by kernel_rfl) (by kernel_rfl) (by kernel_rfl) (by kernel_rfl) (fun _ _ _ h => h) (by assumption) ?_ ?_
            rotate_left
            · (intro w hSw; (try dsimp only at hSw); refine congrArg some ?_; go_simp <;> with_reducible rfl)
            (try dsimp only []); (try simp only [Act.put, List.setIfInBounds_toArray, List.set_cons_zero, List.set_cons_succ])
            refine wpAnyH_yield (i := 5) 132 (v := ?_) (by kernel_rfl) (by kernel_rfl) (by kernel_rfl) (by kernel_rfl) (by kernel_rfl) (fun _ _ _ h => h) (by assumption) ?_ ?_
            rotate_left
            · (intro w hSw; (try dsimp only at hSw); refine congrArg some ?_; go_simp <;> with_reducible rfl)
            (try dsimp only []); (try simp only [Act.put, List.setIfInBounds_toArray, List.set_cons_zero, List.set_cons_succ])
            refine wpAnyH_yield (i := 6) 133 (v := ?_) (by kernel_rfl) (by kernel_rfl) (by kernel_rfl) (by kernel_rfl) (by kernel_rfl) (fun _ _ _ h => h) (by assumption) ?_ ?_
            rotate_left
            · (intro w hSw; (try dsimp only at hSw); refine congrArg some ?_; go_simp <;> with_reducible rfl)
            (try dsimp only []); (try simp only [Act.put, List.setIfInBounds_toArray, List.set_cons_zero, List.set_cons_succ])
            refine wpAnyH_yield (i := 7) 134 (v := ?_) (by kernel_rfl) (by kernel_rfl) (by kernel_rfl) (by kernel_rfl) (by kernel_rfl) (fun _ _ _ h => h) (by assumption) ?_ ?_
            rotate_left
            · (intro w hSw; (try dsimp only at hSw); refine congrArg some ?_; go_simp <;> with_reducible rfl)
            (try dsimp only []); (try simp only [Act.put, List.setIfInBounds_toArray, List.set_cons_zero, List.set_cons_succ])
            refine wpAnyH_yield (i := 8) 135 (v := ?_) (by kernel_rfl) (by kernel_rfl) (by kernel_rfl) (by kernel_rfl) (by kernel_rfl) (fun _ _ _ h => h) (by assumption) ?_ ?_
            rotate_left
            · (intro w hSw; (try dsimp only at hSw); refine congrArg some ?_; go_simp <;> with_reducible rfl)
            (try dsimp only []); (try simp only [Act.put, List.setIfInBounds_toArray, List.set_cons_zero, List.set_cons_succ])
            refine wpAnyH_yield (i := 9) 136 (v := ?_) (by kernel_rfl) (by kernel_rfl) (by kernel_rfl) (by kernel_rfl) (by kernel_rfl) (fun _ _ _ h => h) (by assumption) ?_ ?_
            rotate_left
            · (intro w hSw; (try dsimp only at hSw); refine congrArg some ?_; go_simp <;> with_reducible rfl)
            (try dsimp only []); (try simp only [Act.put, List.setIfInBounds_toArray, List.set_cons_zero, List.set_cons_succ])
            refine wpAnyH_yield (i := 10) 137 (v := ?_) (by kernel_rfl) (by kernel_rfl) (by kernel_rfl) (by kernel_rfl) (by kernel_rfl) (fun _ _ _ h => h) (by assumption) ?_ ?_
            rotate_left
            · (intro w hSw; (try dsimp only at hSw); refine congrArg some ?_; go_simp <;> with_reducible rfl)
            (try dsimp only []); (try simp only [Act.put, List.setIfInBounds_toArray, List.set_cons_zero, List.set_cons_succ])
            refine wpAnyH_yield (i := 11) 138 (v := ?_) (by kernel_rfl) (by kernel_rfl) (by kernel_rfl) (by kernel_rfl) (by kernel_rfl) (fun _ _ _ h => h) (by assumption) ?_ ?_
            rotate_left
            · (intro w hSw; (try dsimp only at hSw); refine congrArg some ?_; go_simp <;> with_reducible rfl)
            (try dsimp only []); (try simp only [Act.put, List.setIfInBounds_toArray, List.set_cons_zero, List.set_cons_succ])
            refine wpAnyH_yield (i := 12) 139 (v := ?_) (by kernel_rfl) (by kernel_rfl) (by kernel_rfl) (by kernel_rfl) (by kernel_rfl) (fun _ _ _ h => h) (by assumption) ?_ ?_
            rotate_left
            · (intro w hSw; (try dsimp only at hSw); refine congrArg some ?_; go_simp <;> with_reducible rfl)
            (try dsimp only []); (try simp only [Act.put, List.setIfInBounds_toArray, List.set_cons_zero, List.set_cons_succ])
            refine wpAnyH_yield (i := 13) 140 (v := ?_) (by kernel_rfl) (by kernel_rfl) (by kernel_rfl) (by kernel_rfl) (by kernel_rfl) (fun _ _ _ h => h) (by assumption) ?_ ?_
            rotate_left
            · (intro w hSw; (try dsimp only at hSw); refine congrArg some ?_; go_simp <;> with_reducible rfl)
            (try dsimp only []); (try simp only [Act.put, List.setIfInBounds_toArray, List.set_cons_zero, List.set_cons_succ])
            refine wpAnyH_yield (i := 14) 141 (v := ?_) (by kernel_rfl) (by kernel_rfl) (by kernel_rfl) (by kernel_rfl) (by kernel_rfl) (fun _ _ _ h => h) (by assumption) ?_ ?_
            rotate_left
            · (intro w hSw; (try dsimp only at hSw); refine congrArg some ?_; go_simp <;> with_reducible rfl)
            (try dsimp only []); (try simp only [Act.put, List.setIfInBounds_toArray, List.set_cons_zero, List.set_cons_succ])
            refine wpAnyH_yield (i := 15) 142 (v := ?_) (by kernel_rfl) (by kernel_rfl) (by kernel_rfl) (by kernel_rfl) (by kernel_rfl) (fun _ _ _ h => h) (by assumption) ?_ ?_
            rotate_left
            · (intro w hSw; (try dsimp only at hSw); refine congrArg some ?_; go_simp <;> with_reducible rfl)
            (try dsimp only []); (try simp only [Act.put, List.setIfInBounds_toArray, List.set_cons_zero, List.set_cons_succ])
            refine wpAnyH_yield (i := 16) 143 (v := ?_) (by kernel_rfl) (by kernel_rfl) (by kernel_rfl) (by kernel_rfl) (by kernel_rfl) (fun _ _ _ h => h) (by assumption) ?_ ?_
            rotate_left
            · (intro w hSw; (try dsimp only at hSw); refine congrArg some ?_; go_simp <;> with_reducible rfl)
            (try dsimp only []); (try simp only [Act.put, List.setIfInBounds_toArray, List.set_cons_zero, List.set_cons_succ])
            refine wpAnyH_yield (i := 17) 144 (v := ?_) (by kernel_rfl) (by kernel_rfl) (by kernel_rfl) (by kernel_rfl) (by kernel_rfl) (fun _ _ _ h => h) (by assumption) ?_ ?_
            rotate_left
            · (intro w hSw; (try dsimp only at hSw); refine congrArg some ?_; go_simp <;> with_reducible rfl)
            (try dsimp only []); (try simp only [Act.put, List.setIfInBounds_toArray, List.set_cons_zero, List.set_cons_succ])
            refine wpAnyH_skip (i := 18) 145 (by kernel_rfl) (by kernel_rfl) (by kernel_rfl) (by kernel_rfl) (by kernel_rfl) (fun _ _ _ h => h) (by assumption) ?_
            (try dsimp only []); (try simp only [Act.put, List.setIfInBounds_toArray, List.set_cons_zero, List.set_cons_succ])
            refine wpAnyH_skip (i := 19) 146 (by kernel_rfl) (by kernel_rfl) (by kernel_rfl) (by kernel_rfl) (by kernel_rfl) (fun _ _ _ h => h) (by assumption) ?_
            (try dsimp only []); (try simp only [Act.put, List.setIfInBounds_toArray, List.set_cons_zero, List.set_cons_succ])
            refine wpAnyH_skip (i := 20) 147 (by kernel_rfl) (by kernel_rfl) (by kernel_rfl) (by kernel_rfl) (by kernel_rfl) (fun _ _ _ h => h) (by assumption) ?_
            (try dsimp only []); (try simp only [Act.put, List.setIfInBounds_toArray, List.set_cons_zero, List.set_cons_succ])
            refine wpAnyH_skip (i := 21) 148 (by kernel_rfl) (by kernel_rfl) (by kernel_rfl) (by kernel_rfl) (by kernel_rfl) (fun _ _ _ h => h) (by assumption) ?_
            (try dsimp only []); (try simp only [Act.put, List.setIfInBounds_toArray, List.set_cons_zero, List.set_cons_succ])
            refine wpAnyH_skip (i := 22) 149 (by kernel_rfl) (by kernel_rfl) (by kernel_rfl) (by kernel_rfl) (by kernel_rfl) (fun _ _ _ h => h) (by assumption) ?_
            (try dsimp only []); (try simp only [Act.put, List.setIfInBounds_toArray, List.set_cons_zero, List.set_cons_succ])
            refine wpAnyH_skip (i := 23) 150 (by kernel_rfl) (by kernel_rfl) (by kernel_rfl) (by kernel_rfl) (by kernel_rfl) (fun _ _ _ h => h) (by assumption) ?_
            (try dsimp only []); (try simp only [Act.put, List.setIfInBounds_toArray, List.set_cons_zero, List.set_cons_succ])
            refine wpAnyH_yield (i := 24) 151 (v := ?_) (by kernel_rfl) (by kernel_rfl) (by kernel_rfl) (by kernel_rfl) (by kernel_rfl) (fun _ _ _ h => h) (by assumption) ?_ ?_
            rotate_left
            · (intro w hSw; (try dsimp only at hSw); refine congrArg some ?_; go_simp <;> with_reducible rfl)
            (try dsimp only []); (try simp only [Act.put, List.setIfInBounds_toArray, List.set_cons_zero, List.set_cons_succ])
            refine wpAnyH_yield (i := 25) 152 (v := ?_) (by kernel_rfl) (by kernel_rfl) (by kernel_rfl) (by kernel_rfl) (by kernel_rfl) (fun _ _ _ h => h) (by assumption) ?_ ?_
            rotate_left
            · (intro w hSw; (try dsimp only at hSw); refine congrArg some ?_; go_simp <;> with_reducible rfl)
            (try dsimp only []); (try simp only [Act.put, List.setIfInBounds_toArray, List.set_cons_zero, List.set_cons_succ])
            refine wpAnyH_yield (i := 26) 153 (v := ?_) (by kernel_rfl) (by kernel_rfl) (by kernel_rfl) (by kernel_rfl) (by kernel_rfl) (fun _ _ _ h => h) (by assumption) ?_ ?_
            rotate_left
            · (intro w hSw; (try dsimp only at hSw); refine congrArg some ?_; go_simp <;> with_reducible rfl)
            (try dsimp only []); (try simp only [Act.put, List.setIfInBounds_toArray, List.set_cons_zero, List.set_cons_succ])
            refine wpAnyH_yield (i := 27) 154 (v := ?_) (by kernel_rfl) (by kernel_rfl) (by kernel_rfl) (by kernel_rfl) (by kernel_rfl) (fun _ _ _ h => h) (by assumption) ?_ ?_
            rotate_left
            · (intro w hSw; (try dsimp only at hSw); refine congrArg some ?_; go_simp <;> with_reducible rfl)
            (try dsimp only []); (try simp only [Act.put, List.setIfInBounds_toArray, List.set_cons_zero, List.set_cons_succ])
            refine wpAnyH_yield (i := 28) 155 (v := ?_) (by kernel_rfl) (by kernel_rfl) (by kernel_rfl) (by kernel_rfl) (by kernel_rfl) (fun _ _ _ h => h) (by assumption) ?_ ?_
            rotate_left
            · (intro w hSw; (try dsimp only at hSw); refine congrArg some ?_; go_simp <;> with_reducible rfl)
            (try dsimp only []); (try simp only [Act.put, List.setIfInBounds_toArray, List.set_cons_zero, List.set_cons_succ])
            refine wpAnyH_yield (i := 29) 156 (v := ?_) (by kernel_rfl) (by kernel_rfl) (by kernel_rfl) (by kernel_rfl) (by kernel_rfl) (fun _ _ _ h => h) (by assumption) ?_ ?_
            rotate_left
            · (intro w hSw; (try dsimp only at hSw); refine congrArg some ?_; go_simp <;> with_reducible rfl)
            (try dsimp only []); (try simp only [Act.put, List.setIfInBounds_toArray, List.set_cons_zero, List.set_cons_succ])
            refine wpAnyH_yield (i := 30) 157 (v := ?_) (by kernel_rfl) (by kernel_rfl) (by kernel_rfl) (by kernel_rfl) (by kernel_rfl) (fun _ _ _ h => h) (by assumption) ?_ ?_
            rotate_left
            · (intro w hSw; (try dsimp only at hSw); refine congrArg some ?_; go_simp <;> with_reducible rfl)
            (try dsimp only []); (try simp only [Act.put, List.setIfInBounds_toArray, List.set_cons_zero, List.set_cons_succ])
            refine wpAnyH_yield (i := 31) 158 (v := ?_) (by kernel_rfl) (by kernel_rfl) (by kernel_rfl) (by kernel_rfl) (by kernel_rfl) (fun _ _ _ h => h) (by assumption) ?_ ?_
            rotate_left
            · (intro w hSw; (try dsimp only at hSw); refine congrArg some ?_; go_simp <;> with_reducible rfl)
            (try dsimp only []); (try simp only [Act.put, List.setIfInBounds_toArray, List.set_cons_zero, List.set_cons_succ])
            refine wpAnyH_yield (i := 32) 159 (v := ?_) (by kernel_rfl) (by kernel_rfl) (by kernel_rfl) (by kernel_rfl) (by kernel_rfl) (fun _ _ _ h => h) (by assumption) ?_ ?_
            rotate_left
            · (intro w hSw; (try dsimp only at hSw); refine congrArg some ?_; go_simp <;> with_reducible rfl)
            (try dsimp only []); (try simp only [Act.put, List.setIfInBounds_toArray, List.set_cons_zero, List.set_cons_succ])
            refine wpAnyH_skip (i := 33) 160 (by kernel_rfl) (by kernel_rfl) (by kernel_rfl) (by kernel_rfl) (by kernel_rfl) (fun _ _ _ h => h) (by assumption) ?_
            (try dsimp only []); (try simp only [Act.put, List.setIfInBounds_toArray, List.set_cons_zero, List.set_cons_succ])
            refine wpAnyH_skip (i := 34) 161 (by kernel_rfl) (by kernel_rfl) (by kernel_rfl) (by kernel_rfl) (by kernel_rfl) (fun _ _ _ h => h) (by assumption) ?_
            (try dsimp only []); (try simp only [Act.put, List.setIfInBounds_toArray, List.set_cons_zero, List.set_cons_succ])
            refine wpAnyH_skip (i := 35) 162 (by kernel_rfl) (by kernel_rfl) (by kernel_rfl) (by kernel_rfl) (by kernel_rfl) (fun _ _ _ h => h) (by assumption) ?_
            (try dsimp only []); (try simp only [Act.put, List.setIfInBounds_toArray, List.set_cons_zero, List.set_cons_succ])
            refine wpAnyH_skip (i := 36) 163 (by kernel_rfl) (by kernel_rfl) (by kernel_rfl) (by kernel_rfl) (by kernel_rfl) (fun _ _ _ h => h) (by assumption) ?_
            (try dsimp only []); (try simp only [Act.put, List.setIfInBounds_toArray, List.set_cons_zero, List.set_cons_succ])
            refine wpAnyH_skip (i := 37) 164 (by kernel_rfl) (by kernel_rfl) (by kernel_rfl) (by kernel_rfl) (by kernel_rfl) (fun _ _ _ h => h) (by assumption) ?_
            (try dsimp only []); (try simp only [Act.put, List.setIfInBounds_toArray, List.set_cons_zero, List.set_cons_succ])
            refine wpAnyH_skip (i := 38) 165 (by kernel_rfl) (by kernel_rfl) (by kernel_rfl) (by kernel_rfl) (by kernel_rfl) (fun _ _ _ h => h) (by assumption) ?_
            (try dsimp only []); (try simp only [Act.put, List.setIfInBounds_toArray, List.set_cons_zero, List.set_cons_succ])
            refine wpAnyH_skip (i := 39) 166 (by kernel_rfl) (by kernel_rfl) (by kernel_rfl) (by kernel_rfl) (by kernel_rfl) (fun _ _ _ h => h) (by assumption) ?_
            (try dsimp only []); (try simp only [Act.put, List.setIfInBounds_toArray, List.set_cons_zero, List.set_cons_succ])
            refine wpAnyH_skip (i := 40) 167 (by kernel_rfl) (by kernel_rfl) (by kernel_rfl) (by kernel_rfl) (by kernel_rfl) (fun _ _ _ h => h) (by assumption) ?_
            (try dsimp only []); (try simp only [Act.put, List.setIfInBounds_toArray, List.set_cons_zero, List.set_cons_succ])
            refine wpAnyH_skip (i := 41) 168 (by kernel_rfl) (by kernel_rfl) (by kernel_rfl) (by kernel_rfl) (by kernel_rfl) (fun _ _ _ h => h) (by assumption) ?_
            (try dsimp only []); (try simp only [Act.put, List.setIfInBounds_toArray, List.set_cons_zero, List.set_cons_succ])
            refine wpAnyH_skip (i := 42) 169 (by kernel_rfl) (by kernel_rfl) (by kernel_rfl) (by kernel_rfl) (by kernel_rfl) (fun _ _ _ h => h) (by assumption) ?_
            (try dsimp only []); (try simp only [Act.put, List.setIfInBounds_toArray, List.set_cons_zero, List.set_cons_succ])
            refine wpAnyH_skip (i := 43) 170 (by kernel_rfl) (by kernel_rfl) (by kernel_rfl) (by kernel_rfl) (by kernel_rfl) (fun _ _ _ h => h) (by assumption) ?_
            (try dsimp only []); (try simp only [Act.put, List.setIfInBounds_toArray, List.set_cons_zero, List.set_cons_succ])
            refine wpAnyH_skip (i := 44) 171 (by kernel_rfl) (by kernel_rfl) (by kernel_rfl) (by kernel_rfl) (by kernel_rfl) (fun _ _ _ h => h) (by assumption) ?_
            (try dsimp only []); (try simp only [Act.put, List.setIfInBounds_toArray, List.set_cons_zero, List.set_cons_succ])
            refine wpAnyH_skip (i := 45) 172 (by kernel_rfl) (by kernel_rfl) (by kernel_rfl) (by kernel_rfl) (by kernel_rfl) (fun _ _ _ h => h) (by assumption) ?_
            (try dsimp only []); (try simp only [Act.put, List.setIfInBounds_toArray, List.set_cons_zero, List.set_cons_succ])
            refine wpAnyH_yield (i := 46) 173 (v := ?_) (by kernel_rfl) (by kernel_rfl) (by kernel_rfl) (by kernel_rfl) (by kernel_rfl) (fun _ _ _ h => h) (by assumption) ?_ ?_
            rotate_left
            · (intro w hSw; (try dsimp only at hSw); refine congrArg some ?_; go_simp <;> with_reducible rfl)
            (try dsimp only []); (try simp only [Act.put, List.setIfInBounds_toArray, List.set_cons_zero, List.set_cons_succ])
            refine wpAnyH_yield (i := 47) 174 (v := ?_) (by kernel_rfl) (by kernel_rfl) (by kernel_rfl) (by kernel_rfl) (by kernel_rfl) (fun _ _ _ h => h) (by assumption) ?_ ?_
            rotate_left
            · (intro w hSw; (try dsimp only at hSw); refine congrArg some ?_; go_simp <;> with_reducible rfl)
            (try dsimp only []); (try simp only [Act.put, List.setIfInBounds_toArray, List.set_cons_zero, List.set_cons_succ])
            refine wpAnyH_done (by kernel_rfl) ?_ _
            obtain ⟨q0, q1, q2⟩ := hHeld
            go_wp2_with fail
            go_roundw
            case rel => exact ⟨k + 1, rp + rn, by go_num, by omega, by go_num, fun h => (hnx.out.1 h).symm, hnx.out.2, by rw [HFX.out]; rfl, by rw [HTS.out]; simp, HB.out.drew⟩
            case measure => simp [intOf]; omega
        · obtain rfl : k = ys.length := by omega
          rw [List.take_length]
          have hqe := hq2 rfl
          subst hqe
          have hln := (H4.out.on HB.out).map.len Try.underlying107 3
          have HBl := Lib.hid (H4.out.on HB.out).hold.below
          clear hq1 hq2 hk HCt HB
          go_wp2_with fail
          go_ret
          exact ⟨rfl, HBl.out⟩
end Go.Proofs.Ytldlogmjkbhomaa.Spa
