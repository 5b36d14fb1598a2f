/- OldslabAll: the walk. -/
import Derived.Test.YtknieebmcpgppaaDoorOldH
import Derived.Test.YtknieebmcpgppaaDoorAidTurn
import Derived.Test.YtknieebmcpgppaaDoorAidRound
set_option linter.unusedSimpArgs false
namespace Go.Proofs.YtknieebmcpgppaaDoor.Old
open Go.RowKit Go.Proofs.YtknieebmcpgppaaDoor.Aid Go.Proofs.YtknieebmcpgppaaDoor.Bit
theorem fx0 {b c : Nat} : newX b c = fx (newX b c) 0 := by
  unfold fx fillL newX
  simp
theorem Hd.grow {w0 w w' : World} {p B : Nat} {F : List Nat} {x : Sb} (h : Hd w0 w p F x) (k : Below B w w') (hF : ∀ y ∈ F, y < B) (hB : w0.heap.size ≤ B) : Hd w0 w' p F x := by
  have hr := kept_range k
  have hp := h.pos
  refine ⟨h.sl.kept hr fun y hy hy2 => ?_, h.base, h.below.trans (k.mono hB), h.pos, h.tab.kept hr fun hy2 => ?_⟩
  · have h1 := in_range hy2
    have h2 := hF y hy
    omega
  · have := in_range hy2
    omega
theorem on_give2 {y : Sb} {v : Int} {S : List Int} (h : OnIs y (v :: S)) {j : Nat} (hj : j < y.l.length) (hv : v = ((y.b + j * y.z : Nat) : Int)) (hn : v ∉ S) :
    giveE y y.l v = 0 ∧ ∃ y' : Sb, ({ y with l := giveL y y.l v } : Sb) = y' ∧ OnIs y' S ∧ giveE y' y'.l v = 19 ∧ ({ y' with l := giveL y' y'.l v } : Sb) = y' ∧ y'.b = y.b ∧ y'.z = y.z ∧ y'.l.length = y.l.length := by
  obtain ⟨h1, h2, h3, h4⟩ := on_give h hj hv hn
  refine ⟨h1, _, rfl, h2, h3, ?_, rfl, rfl, giveL_len _ _ _⟩
  show ({ b := y.b, c := y.c, z := y.z, l := giveL { y with l := giveL y y.l v } (giveL y y.l v) v } : Sb) = _
  rw [h4]
set_option maxHeartbeats 8000000 in
set_option maxRecDepth 100000 in
attribute [-go_sem] Builtin.append_ in
theorem all_yes (w : World) (b c : Nat) (t : Int) (hT : Tab w) (hn : newOk b c) :
    Calls Tryd.prog 7 #[.int .i64 b, .int .i64 c, .int .i64 t] w fun e w' => e = .returned (.bool true) ∧ Below w.heap.size w w' := by
  have HT := Lib.hid hT
  have HN := Lib.hid (fun W hT => new_yes W b c hn hT)
  have hok := newX_ok hn
  have hx0 := fx0 (b := b) (c := c)
  clear hT hn
  go_enter Tryd.func7, Tryd.ntmps7
  go_wp2_with fail
  refine (alive_calls w HT.out).mono ?_
  rintro e w1 ⟨rfl, hb1⟩
  have H1 := Lib.hid (And.intro hb1 (HT.out.below hb1))
  clear hb1
  go_wp2_with fail
  refine (HN.out w1 H1.out.2).mono ?_
  rintro e w2 ⟨p, F, rfl, hS, hF, hb⟩
  have H2 := Lib.hid (show Hd w w2 p F (newX b c) from ⟨hS, fun y hy => Nat.le_trans H1.out.1.size (hF y hy), below_then H1.out.1 hb, HT.out.1, H1.out.2.below hb⟩)
  clear hS hF hb H1 HN HT
  generalize newX b c = x at *
  rw [hx0] at H2
  clear hx0
  obtain ⟨hm1, hm2, hm3⟩ := hok.many
  go_upto_region 7 with fail
  have H3 := Lib.hid (show Hd w (w2.alloc (.cells #[] 3)) p F (fx x 0) ∧ Aid.Own (w2.alloc (.cells #[] 3)) w2.heap.size 3 .i64 (.slice (some ⟨w2.heap.size, 0, none⟩) 0 0) (addrs x 0) ∧ (∀ y ∈ F, y < w2.heap.size) ∧ w2.heap.size ≤ (w2.alloc (.cells #[] 3)).heap.size ∧ w.heap.size ≤ w2.heap.size from ⟨H2.out.on ((Below.refl _ _).alloc (Nat.le_refl _) _), Aid.Own.lit0 w2 _ (Nat.le_refl _) _ .i64, H2.out.sl.flt, by simp, H2.out.below.size⟩)
  clear H2
  generalize w2.alloc (.cells #[] 3) = w3 at H3 ⊢
  generalize w2.heap.size = b0 at H3 ⊢
  go_wp2_with fail
  go_loopw [9, 10] (fun s i wr => ∃ k : Nat, i = .int .i64 k ∧ k ≤ x.l.length ∧ Hd w wr p F (fx x k) ∧ Aid.Own wr b0 3 .i64 s (addrs x k) ∧ b0 ≤ wr.heap.size) (fun _ i _ => x.l.length - (intOf i).toNat)
  case atStart => exact ⟨0, rfl, by omega, H3.out.1, H3.out.2.1, H3.out.2.2.2.1⟩
  case round =>
    obtain ⟨k, rfl, hk, hH, hO, hz⟩ := hrel
    have hsl : (fx x k).l.length = x.l.length := fill_len hk
    have HH := Lib.hid (And.intro hH hO)
    have HS := Lib.hid (slots_calls wr p F (fx x k) hH.sl)
    rw [hsl] at HS
    clear hH hO hsl
    by_cases hlt : k < x.l.length
    · have hk0 : (0 : Int) ≤ (k : Int) := by omega
      obtain ⟨hX, hA, hE⟩ := fx_take hlt
      have hsl := fx_slot hok hlt (j := k + 1) (by omega)
      have hl1 : (fx x (k + 1)).l.length = x.l.length := fill_len (by omega)
      have hc1 : cntL (fx x (k + 1)).l = k + 1 := fill_cnt (by omega)
      have HX := Lib.hid (And.intro hX (And.intro hA (And.intro hE (And.intro hsl (And.intro hl1 hc1)))))
      have hat := hok.at_ hlt
      have hhi := hok.hi
      clear hX hA hE hsl hl1 hc1
      go_wp2_with fail
      refine HS.out.mono ?_
      rintro e w4 ⟨rfl, rfl⟩
      go_wp2_with fail
      refine (take_calls wr p F (fx x k) HH.out.1.sl HH.out.1.tab).mono ?_
      rw [HX.out.1, HX.out.2.1, HX.out.2.2.1]
      rintro e w4 ⟨rfl, hk4⟩
      have H4 := Lib.hid (And.intro (HH.out.1.wrote hk4) (And.intro (own_kept HH.out.2 hk4.2 H3.out.2.2.1) (Nat.le_trans hz hk4.2.size)))
      have HSL := Lib.hid (slot_calls w4 p F (fx x (k + 1)) H4.out.1.sl ((x.b + k * x.z : Nat) : Int))
      rw [HX.out.2.2.2.1] at HSL
      clear hk4 HS
      generalize hvv : ((x.b + k * x.z : Nat) : Int) = v at *
      have HVV := Lib.hid hvv
      clear hvv
      go_wp2_with fail
      refine HSL.out.mono ?_
      rw [show slotV (some k) = (k : Int) from rfl, show slotE (some k) = 0 from rfl]
      rintro e w5 ⟨rfl, hb⟩
      have H5 := Lib.hid (And.intro (H4.out.1.on hb) (And.intro (H4.out.2.1.below hb) (Nat.le_trans H4.out.2.2 hb.size)))
      have HFR := Lib.hid (free_calls w5 p F (fx x (k + 1)) H5.out.1.sl)
      rw [HX.out.2.2.2.2.1, HX.out.2.2.2.2.2] at HFR
      clear hb H4 HSL hat hhi
      go_wp2_with fail
      refine HFR.out.mono ?_
      rintro e w6 ⟨rfl, hb⟩
      have H6 := Lib.hid (And.intro (H5.out.1.on hb) (And.intro (H5.out.2.1.below hb) (Nat.le_trans H5.out.2.2 hb.size)))
      have HS6 := Lib.hid (slots_calls w6 p F (fx x (k + 1)) H6.out.1.sl)
      rw [HX.out.2.2.2.2.1] at HS6
      clear hb H5 HFR
      go_wp2_with fail
      refine HS6.out.mono ?_
      rintro e w7 ⟨rfl, rfl⟩
      have hsz := H6.out.2.2
      have e1 : wrap64 ((x.l.length : Int) - (k : Int)) = (x.l.length : Int) - (k : Int) := by unfold wrap64; omega
      have e2 : wrap64 ((x.l.length : Int) - (k : Int) - 1) = (x.l.length : Int) - (k : Int) - 1 := by unfold wrap64; omega
      have e3 : ((x.l.length : Int) - ((k + 1 : Nat) : Int) != (x.l.length : Int) - (k : Int) - 1) = false := by
        rw [show (x.l.length : Int) - ((k + 1 : Nat) : Int) = (x.l.length : Int) - (k : Int) - 1 by omega]
        simp
      go_wp2_with (at_builtin; refine append_int rfl _ _ 30 rfl b0 3 .i64 8 Tryd.underlying30 info_int _ (addrs x k) rfl H6.out.2.1 v rfl (by rw [addrs_len]; omega) (by rw [addrs_len]; omega) hsz ?_)
      intro v1 w8 hown1 hb1 _
      have H8 := Lib.hid (And.intro (H6.out.1.grow hb1 H3.out.2.2.1 H3.out.2.2.2.2) (And.intro hown1 (Nat.le_trans H6.out.2.2 hb1.size)))
      have HAS := Lib.hid (addrs_succ x k)
      clear hown1 hb1 H6 HS6
      go_wp2_with fail
      go_roundw
      case rel => exact ⟨k + 1, by go_num, by omega, H8.out.1, by rw [HAS.out, HVV.out]; exact H8.out.2.1, H8.out.2.2⟩
      case measure => simp [intOf]; omega
    · obtain rfl : k = x.l.length := by omega
      obtain ⟨hX, hA, hE⟩ := fx_full (x := x)
      have hcn : cntL (fx x x.l.length).l = x.l.length := fill_cnt (Nat.le_refl _)
      have hln : (fx x x.l.length).l.length = x.l.length := fill_len (Nat.le_refl _)
      have HX := Lib.hid (And.intro hX (And.intro hA (And.intro hE (And.intro hcn hln))))
      clear hX hA hE hcn hln hlt
      go_wp2_with fail
      refine HS.out.mono ?_
      rintro e w4 ⟨rfl, rfl⟩
      go_wp2_with fail
      refine (take_calls wr p F _ HH.out.1.sl HH.out.1.tab).mono ?_
      rw [HX.out.1, HX.out.2.1, HX.out.2.2.1]
      rintro e w4 ⟨rfl, hk4⟩
      have H4 := Lib.hid (And.intro (HH.out.1.wrote hk4) (own_kept HH.out.2 hk4.2 H3.out.2.2.1))
      have HST := Lib.hid (state_calls w4 p F _ H4.out.1.sl)
      rw [HX.out.2.2.2.1, HX.out.2.2.2.2, if_neg (by omega), if_pos rfl] at HST
      clear hk4 HS HH
      go_wp2_with fail
      refine HST.out.mono ?_
      rintro e w5 ⟨rfl, rfl⟩
      have hown := H4.out.2
      obtain ⟨g, cc, hs9, _, hrow, _⟩ := Row.of_own hown (fun e => by
        obtain ⟨A, c2, e2, _⟩ := hown.shape
        rw [e2, addrs_len] at e
        injection e with _ e3 _
        omega)
      subst hs9
      rw [addrs_len]
      have HRW := Lib.hid (And.intro H4.out.1 hrow)
      clear hrow hown H4 HST
      have HTL := Lib.hid (show (addrs x x.l.length).length ≤ 64 by rw [addrs_len]; exact hm1)
      have HVL := Lib.hid (addrs_len x x.l.length)
      go_upto_region 18 with fail
      go_cut [96] (fun v wc => v = .bool (decide (t < 0) || decide ((x.l.length : Int) < t)) ∧ w4 = wc)
      case first =>
        by_cases h1 : t < 0
        · go_wp2_with fail
          go_meet
          exact ⟨by simp [h1], rfl⟩
        · by_cases h2 : (x.l.length : Int) < t
          · go_wp2_with fail
            go_meet
            exact ⟨by simp [h1, h2], rfl⟩
          · go_wp2_with fail
            go_meet
            exact ⟨by simp [h1, h2], rfl⟩
      case rest =>
      obtain ⟨rfl, rfl⟩ := hcut
      rename_i hkk
      refine hkk _ _ ?_
      clear hkk
      go_cut [2] (fun m wc => ∃ m' : Nat, m = .int .i64 m' ∧ m' ≤ x.l.length ∧ w4 = wc)
      case first =>
        by_cases h1 : t < 0
        · rw [show (decide (t < 0) || decide ((x.l.length : Int) < t)) = true by simp [h1]]
          go_wp2_with fail
          go_meet
          exact ⟨0, rfl, by omega, rfl⟩
        · by_cases h2 : (x.l.length : Int) < t
          · rw [show (decide (t < 0) || decide ((x.l.length : Int) < t)) = true by simp [h1, h2]]
            go_wp2_with fail
            go_meet
            exact ⟨0, rfl, by omega, rfl⟩
          · rw [show (decide (t < 0) || decide ((x.l.length : Int) < t)) = false by simp [h1, h2]]
            obtain ⟨m, rfl⟩ := Int.eq_ofNat_of_zero_le (show 0 ≤ t by omega)
            have h3 : m ≤ x.l.length := by omega
            go_wp2_with fail
            go_meet
            exact ⟨m, rfl, h3, rfl⟩
      case rest =>
      obtain ⟨m, rfl, hm, rfl⟩ := hcut
      go_upto_region 20 with fail
      have hm1' : (m : Int) ≤ (x.l.length : Int) := by omega
      have hmc0 := HRW.out.2.cap
      rw [List.length_map, addrs_len] at hmc0
      have hlc := hmc0.1
      have hmc : m ≤ cc := by omega
      have hI := HRW.out.2.ints
      generalize hV : addrs x x.l.length = vs at *
      have hAD : ∃ ad, (if cc = m then some (⟨g, 0, none⟩ : Addr) else some ⟨g, m, none⟩) = some ad ∧ Ints w4 .i64 (some ad) (vs.drop m) := by
        by_cases h1 : cc = m
        · rw [if_pos h1]
          refine ⟨_, rfl, fun j hj => ?_⟩
          rw [List.length_drop, HVL.out] at hj
          omega
        · rw [if_neg h1]
          exact ⟨_, rfl, ints_drop hI m⟩
      obtain ⟨ad, had, hD⟩ := hAD
      have HI := Lib.hid (And.intro hD (And.intro (ints_take hI m) (show (vs.take m).length = m by rw [List.length_take, HVL.out]; omega)))
      have HAD := Lib.hid had
      clear hI hD had hmc0
      refine wp_region_held_drew (S := fun _ => True) (by kernel_rfl) ?_ (fun hHeld => ?_)
      · (try dsimp only); (try trivial)
      refine wpAnyH_yield (i := 1) 98 (v := ?_) (by kernel_rfl) (by kernel_rfl) (by kernel_rfl) (by kernel_rfl) (by kernel_rfl) (fun _ _ _ h => h) (by assumption) ?_ ?_
      rotate_left
      · (intro w hSw; (try dsimp only at hSw); refine congrArg some ?_; go_simp <;> with_reducible rfl)
      (try dsimp only []); (try simp only [Act.put, List.setIfInBounds_toArray, List.set_cons_zero, List.set_cons_succ])
      refine wpAnyH_yield (i := 2) 99 (v := ?_) (by kernel_rfl) (by kernel_rfl) (by kernel_rfl) (by kernel_rfl) (by kernel_rfl) (fun _ _ _ h => h) (by assumption) ?_ ?_
      rotate_left
      · (intro w hSw; (try dsimp only at hSw); refine congrArg some ?_; go_simp <;> with_reducible rfl)
      (try dsimp only []); (try simp only [Act.put, List.setIfInBounds_toArray, List.set_cons_zero, List.set_cons_succ])
      refine wpAnyH_yield (i := 3) 100 (v := ?_) (by kernel_rfl) (by kernel_rfl) (by kernel_rfl) (by kernel_rfl) (by kernel_rfl) (fun _ _ _ h => h) (by assumption) ?_ ?_
      rotate_left
      · (intro w hSw; (try dsimp only at hSw); refine congrArg some ?_; go_simp <;> with_reducible rfl)
      (try dsimp only []); (try simp only [Act.put, List.setIfInBounds_toArray, List.set_cons_zero, List.set_cons_succ])
      refine wpAnyH_yield (i := 5) 102 (v := ?_) (by kernel_rfl) (by kernel_rfl) (by kernel_rfl) (by kernel_rfl) (by kernel_rfl) (fun _ _ _ h => h) (by assumption) ?_ ?_
      rotate_left
      · (intro w hSw; (try dsimp only at hSw); refine congrArg some ?_; go_simp <;> with_reducible rfl)
      (try dsimp only []); (try simp only [Act.put, List.setIfInBounds_toArray, List.set_cons_zero, List.set_cons_succ])
      refine wpAnyH_yield (i := 6) 103 (v := ?_) (by kernel_rfl) (by kernel_rfl) (by kernel_rfl) (by kernel_rfl) (by kernel_rfl) (fun _ _ _ h => h) (by assumption) ?_ ?_
      rotate_left
      · (intro w hSw; (try dsimp only at hSw); refine congrArg some ?_; go_simp <;> with_reducible rfl)
      (try dsimp only []); (try simp only [Act.put, List.setIfInBounds_toArray, List.set_cons_zero, List.set_cons_succ])
      refine wpAnyH_yield (i := 7) 104 (v := ?_) (by kernel_rfl) (by kernel_rfl) (by kernel_rfl) (by kernel_rfl) (by kernel_rfl) (fun _ _ _ h => h) (by assumption) ?_ ?_
      rotate_left
      · (intro w hSw; (try dsimp only at hSw); refine congrArg some ?_; go_simp <;> with_reducible rfl)
      (try dsimp only []); (try simp only [Act.put, List.setIfInBounds_toArray, List.set_cons_zero, List.set_cons_succ])
      refine wpAnyH_ready (rs := [0]) (by kernel_rfl) (by simp) ?_
      refine AllReadyH.cons rfl (fun K hK => ?_) ?_
      · go_simp
        refine hK.out _ _ ?_ (fun hHeld => ?_)
        · (try dsimp only); (try trivial)
        clear hK K
        (try dsimp only []); (try simp only [Act.put, List.setIfInBounds_toArray, List.set_cons_zero, List.set_cons_succ])
        refine wpAnyH_ready (rs := [4]) (by kernel_rfl) (by simp) ?_
        refine AllReadyH.cons rfl (fun K hK => ?_) ?_
        · obtain ⟨v5, w5, e5, hO5, hb5, hn5⟩ := append_own_run (P := Tryd.prog) (W := (w4.alloc (.cells #[] 3)).drew) 30 30 w4.heap.size 3 .i64 8 Tryd.underlying30 info_int (.slice (some ⟨w4.heap.size, 0, none⟩) 0 0) [] (show Aid.Own _ _ _ _ _ _ from Aid.Own.lit0 w4 w4.heap.size (Nat.le_refl _) 3 .i64) (by simp) (vs.drop m) ad (cc - m)
            (HI.out.1.below (((Below.refl w4.heap.size w4).alloc (Nat.le_refl _) (.cells #[] 3)).drew)) (by have := HTL.out; simp; omega) (by have := HTL.out; simp; omega) (by show w4.heap.size ≤ (w4.alloc (.cells #[] 3)).heap.size; simp)
          rw [List.length_drop, HVL.out] at e5
          have H5 := Lib.hid (And.intro hO5 (((Below.refl w4.heap.size w4).alloc (Nat.le_refl _) (.cells #[] 3)).drew.trans hb5))
          clear hO5 hb5
          go_simp
          rw [HAD.out, e5]
          go_simp
          refine hK.out _ _ ?_ (fun hHeld => ?_)
          · (try dsimp only); (try trivial)
          clear hK K
          (try dsimp only []); (try simp only [Act.put, List.setIfInBounds_toArray, List.set_cons_zero, List.set_cons_succ])
          refine wpAnyH_ready (rs := [8]) (by kernel_rfl) (by simp) ?_
          refine AllReadyH.cons rfl (fun K hK => ?_) ?_
          · obtain ⟨v6, w6, e6, hO6, hb6, hn6⟩ := append_own_run (P := Tryd.prog) (W := w5) 30 30 w4.heap.size 3 .i64 8 Tryd.underlying30 info_int v5 ([] ++ vs.drop m) H5.out.1 hn5 (vs.take m) ⟨g, 0, none⟩ cc
              (HI.out.2.1.below H5.out.2) (by have := HTL.out; simp; omega) (by have := HTL.out; simp; omega) (by exact H5.out.2.size)
            rw [HI.out.2.2] at e6
            have H6 := Lib.hid (And.intro hO6 (H5.out.2.trans hb6))
            clear hO6 hb6 H5 hn5 e5
            go_simp
            refine hK.out _ _ ?_ (fun hHeld => ?_)
            · (try dsimp only); (try trivial)
            clear hK K
            (try dsimp only []); (try simp only [Act.put, List.setIfInBounds_toArray, List.set_cons_zero, List.set_cons_succ])
            refine wpAnyH_yield (i := 9) 9 (v := ?_) (by kernel_rfl) (by kernel_rfl) (by kernel_rfl) (by kernel_rfl) (by kernel_rfl) (fun _ _ _ h => h) (by assumption) ?_ ?_
            rotate_left
            · (intro w hSw; (try dsimp only at hSw); refine congrArg some ?_; go_simp <;> with_reducible rfl)
            (try dsimp only []); (try simp only [Act.put, List.setIfInBounds_toArray, List.set_cons_zero, List.set_cons_succ])
            refine wpAnyH_done (by kernel_rfl) ?_ _
            rw [List.nil_append] at H6
            obtain ⟨gl, cl, rfl, _, hr, hgl⟩ := Row.of_own H6.out.1 hn6
            have H7 := Lib.hid (show Hd w w6 p F (fx x x.l.length) ∧ gl ∉ F ∧ Row w6 3 gl cl ((vs.drop m ++ vs.take m).map (Value.int .i64)) from by
              have hc := HRW.out.1
              refine ⟨hc.on H6.out.2, fun hx => ?_, hr⟩
              have := hc.sl.flt gl hx
              omega)
            have HLP := Lib.hid (show ∀ v, v ∈ vs.drop m ++ vs.take m ↔ v ∈ addrs x x.l.length from fun v => by
              rw [hV]
              have hp : (vs.drop m ++ vs.take m).Perm vs := List.perm_append_comm.trans (by rw [List.take_append_drop])
              exact hp.mem_iff)
            have HND := Lib.hid (show (vs.drop m ++ vs.take m).Nodup from by
              have hp : (vs.drop m ++ vs.take m).Perm vs := List.perm_append_comm.trans (by rw [List.take_append_drop])
              rw [hp.nodup_iff, ← hV]
              exact addrs_nodup hok x.l.length)
            have hLL : (vs.drop m ++ vs.take m).length ≤ 64 := by
              have h1 := HTL.out
              rw [List.length_append, List.length_drop, List.length_take]
              omega
            clear hr hgl hn6 H6 HI HAD e6 HRW HTL HVL hm hlc hmc hHeld
            generalize vs.drop m ++ vs.take m = ls at H7 HLP HND hLL ⊢
            go_wp2_with fail
            go_loopw [17] (fun i wr => ∃ (k : Nat) (y : Sb), i = .int .i64 k ∧ k ≤ ls.length ∧ Hd w wr p F y ∧ y.b = x.b ∧ y.z = x.z ∧ y.l.length = x.l.length ∧ OnIs y (ls.drop k) ∧ Row wr 3 gl cl (ls.map (Value.int .i64))) (fun i _ => ls.length - (intOf i).toNat)
            case atStart => exact ⟨0, fx x x.l.length, rfl, by omega, H7.out.1, rfl, rfl, fill_len (Nat.le_refl _), on_full hok fun v hv => (HLP.out v).2 hv, H7.out.2.2⟩
            case round =>
              obtain ⟨k, y, rfl, hk, hH, hy1, hy2, hy3, hon, hr⟩ := hrel
              have HH := Lib.hid (And.intro hH (And.intro hr (And.intro hon (And.intro hy1 (And.intro hy2 hy3)))))
              clear hH hr hon hy1 hy2 hy3
              by_cases hlt : k < ls.length
              · have hk0 : (0 : Int) ≤ (k : Int) := by omega
                have hk1 : (k : Int) < (ls.length : Int) := by omega
                obtain ⟨bb, oo, eA, _, ca⟩ := HH.out.2.1.ints k hlt
                injection eA with eA
                injection eA with eb eo _
                subst eb eo
                rw [Nat.zero_add] at ca
                have hon := HH.out.2.2.1
                rw [drop_int hlt] at hon
                have hnd : ls.getD k 0 ∉ ls.drop (k + 1) := by
                  have h1 := HND.out.sublist (List.drop_sublist k ls)
                  rw [drop_int hlt] at h1
                  exact (List.nodup_cons.1 h1).1
                have hmem : ls.getD k 0 ∈ addrs x x.l.length := (HLP.out _).1 (by rw [List.getD_eq_getElem?_getD, List.getElem?_eq_getElem hlt]; exact List.getElem_mem hlt)
                obtain ⟨j, hj, hv⟩ := addrs_mem hmem
                obtain ⟨hg1, y', hg2, hg3, hg4, hg5, hg6, hg7, hg8⟩ := on_give2 hon (j := j) (by rw [HH.out.2.2.2.2.2]; exact hj) (by rw [HH.out.2.2.2.1, HH.out.2.2.2.2.1]; exact hv) hnd
                have HG := Lib.hid (And.intro hg1 (And.intro hg2 (And.intro hg3 (And.intro hg4 (And.intro hg5 (And.intro hg6 (And.intro hg7 hg8)))))))
                have HCA := Lib.hid (fun (W : World) (hr : Row W 3 gl cl (ls.map (Value.int .i64))) => (show W.cell? ⟨gl, k, none⟩ = some (.int .i64 (ls.getD k 0)) from by
                  obtain ⟨b1, o1, e1, _, ca1⟩ := hr.ints k hlt
                  injection e1 with e1
                  injection e1 with eb1 eo1 _
                  subst eb1 eo1
                  rw [Nat.zero_add] at ca1
                  exact ca1))
                clear hon hnd hmem hv hg1 hg2 hg3 hg4 hg5 hg6 hg7 hg8 hj
                generalize ls.getD k 0 = v at *
                go_wp2_with fail
                refine (give_calls wr p F y HH.out.1.sl v).mono ?_
                rw [HG.out.1, HG.out.2.1]
                rintro e w8 ⟨rfl, hk8⟩
                have H8 := Lib.hid (And.intro (HH.out.1.wrote hk8) (HH.out.2.1.kept hk8.2 H7.out.2.1))
                clear hk8 ca
                have ca := HCA.out w8 H8.out.2
                go_wp2_with fail
                refine (give_calls w8 p F y' H8.out.1.sl v).mono ?_
                rw [HG.out.2.2.2.1, HG.out.2.2.2.2.1]
                rintro e w9 ⟨rfl, hk9⟩
                have H9 := Lib.hid (And.intro (H8.out.1.wrote hk9) (H8.out.2.kept hk9.2 H7.out.2.1))
                clear hk9 ca
                go_wp2_with fail
                go_roundw
                case rel => exact ⟨k + 1, y', by go_num, by omega, H9.out.1, HG.out.2.2.2.2.2.1.trans HH.out.2.2.2.1, HG.out.2.2.2.2.2.2.1.trans HH.out.2.2.2.2.1, HG.out.2.2.2.2.2.2.2.trans HH.out.2.2.2.2.2, HG.out.2.2.1, H9.out.2⟩
                case measure => simp [intOf]; omega
              · obtain rfl : k = ls.length := by omega
                have hon := HH.out.2.2.1
                rw [List.drop_length] at hon
                obtain ⟨hcn, hky⟩ := on_nil hon
                have HST := Lib.hid (state_calls wr p F y HH.out.1.sl)
                rw [hcn, if_pos rfl] at HST
                have HKY := Lib.hid (key_calls wr p F y HH.out.1.sl)
                rw [hky] at HKY
                have ek : ∀ W : World, (Op.equalIn 10000 KT (.agg #[.int .u64 0, .int .u64 0, .int .u64 0, .int .u64 0]) (.agg #[.int .u64 0, .int .u64 0, .int .u64 0, .int .u64 0])).run Tryd.prog W = .ok true W := fun W => by rw [eq_key]; simp
                clear hon hcn hky hlt hk
                go_wp2_with fail
                refine HST.out.mono ?_
                rintro e w8 ⟨rfl, rfl⟩
                go_wp2_with fail
                refine HKY.out.mono ?_
                rintro e w8 ⟨rfl, hb⟩
                have H8 := Lib.hid (HH.out.1.on hb)
                clear hb HH
                go_wp2_with fail
                go_ret
                exact ⟨rfl, H8.out.below⟩
          exact AllReadyH.nil
        exact AllReadyH.nil
      exact AllReadyH.nil
end Go.Proofs.YtknieebmcpgppaaDoor.Old
