/- The document's slabs (layer 13): New, With, Copy. -/
import Derived.Test.YtknieebmcpgppaaDoorOldS
import Derived.Test.YtknieebmcpgppaaDoorAidRec
import Derived.Test.YtknieebmcpgppaaDoorAidRound
set_option linter.unusedSimpArgs false
namespace Go.Proofs.YtknieebmcpgppaaDoor.Old
open Go.RowKit Go.Proofs.YtknieebmcpgppaaDoor.Aid Go.Proofs.YtknieebmcpgppaaDoor.Bit
def encB (b : Bool) : List Value := [.bool b]
theorem encB_len (b : Bool) : (encB b).length = 1 := rfl
theorem encB_one (b : Bool) : ∀ v ∈ encB b, v.oneCell' = true := by
  intro v hv
  simp [encB] at hv
  rw [hv]; rfl
theorem flat_encB (l : List Bool) : l.flatMap encB = l.map .bool := by
  induction l with
  | nil => rfl
  | cons a r ih => rw [List.flatMap_cons, ih]; rfl
theorem bools_recs {w : World} {g c : Nat} {l : List Bool} (h : BoolsAt w g c l) : Recs encB 1 w 4 g c l := by
  have h1 : w.ownsRow 0 4 1 (.slice (some ⟨g, 0, none⟩) l.length c) l.length (l.flatMap encB) := by
    rw [flat_encB]
    have := h
    unfold BoolsAt Row at this
    rw [List.length_map] at this
    exact this
  obtain ⟨g2, c2, e, hr, _⟩ := Recs.of_own h1 rfl (by simp)
  injection e with e1 _ e3
  injection e1 with e4
  injection e4 with e5
  subst e5 e3
  exact hr
theorem recs_bools {w : World} {g c : Nat} {l : List Bool} (h : Recs encB 1 w 4 g c l) : BoolsAt w g c l := by
  have := h.own encB_len (Nat.zero_le g)
  rw [flat_encB] at this
  unfold BoolsAt Row
  rw [List.length_map]
  exact this
set_option maxHeartbeats 2000000 in
attribute [-go_sem] Builtin.append_ in
theorem rcopy_calls (w : World) (q : Nat) (G : List Nat) (x : Sb) (h : RfAt w q G x) : Calls Tryd.prog 70 #[.pointer (some ⟨q, 0, none⟩)] w fun e w' => ∃ r g c, e = .returned (.pointer (some ⟨r, 0, none⟩)) ∧ RfP w' r g c x ∧ w.heap.size ≤ r ∧ w.heap.size ≤ g ∧ Below w.heap.size w w' := by
  obtain ⟨hm1, hm2, hm3⟩ := h.ok.many
  obtain ⟨g, cp, h1, _⟩ := h.ex
  have HBR := Lib.hid (bools_recs h1.row)
  have H0 := Lib.hid ((Below.refl w.heap.size w).drew)
  have HC := Lib.hid (fun (W : World) (hb : Below w.heap.size w W) => (show W.cell? ⟨q, 0, none⟩ = some (.int .i64 x.b) ∧ W.cell? ⟨q, 1, none⟩ = some (.int .i64 0) ∧ W.cell? ⟨q, 2, none⟩ = some (.int .i64 x.c) ∧ W.cell? ⟨q, 3, none⟩ = some (.slice (some ⟨g, 0, none⟩) x.l.length cp) from (h1.below hb).cells))
  clear h h1 hm3
  go_enter Tryd.func70, Tryd.ntmps70
  go_wp2_with fail
  refine wp_region_held_drew (S := fun w' => w'.cell? ⟨q, 0, none⟩ = some (.int .i64 x.b) ∧ w'.cell? ⟨q, 1, none⟩ = some (.int .i64 0) ∧ w'.cell? ⟨q, 2, none⟩ = some (.int .i64 x.c) ∧ w'.cell? ⟨q, 3, none⟩ = some (.slice (some ⟨g, 0, none⟩) x.l.length cp)) (by kernel_rfl) ?_ (fun hHeld => ?_)
  · (try dsimp only); (first | exact HC.out _ H0.out | exact HC.out _ H1.out | exact HC.out _ H2.out)
  refine wpAnyH_yield (i := 0) 3 (v := ?_) (by kernel_rfl) (by kernel_rfl) (by kernel_rfl) (by kernel_rfl) (by kernel_rfl) (fun _ _ _ h => h) (by assumption) ?_ ?_
  rotate_left
  · (intro w hSw; (try dsimp only at hSw); refine congrArg some ?_; go_simp <;> with_reducible rfl)
  (try dsimp only []); (try simp only [Act.put, List.setIfInBounds_toArray, List.set_cons_zero, List.set_cons_succ])
  refine wpAnyH_yield (i := 1) 4 (v := ?_) (by kernel_rfl) (by kernel_rfl) (by kernel_rfl) (by kernel_rfl) (by kernel_rfl) (fun _ _ _ h => h) (by assumption) ?_ ?_
  rotate_left
  · (intro w hSw; (try dsimp only at hSw); refine congrArg some ?_; go_simp <;> with_reducible rfl)
  (try dsimp only []); (try simp only [Act.put, List.setIfInBounds_toArray, List.set_cons_zero, List.set_cons_succ])
  refine wpAnyH_yield (i := 2) 5 (v := ?_) (by kernel_rfl) (by kernel_rfl) (by kernel_rfl) (by kernel_rfl) (by kernel_rfl) (fun _ _ _ h => h) (by assumption) ?_ ?_
  rotate_left
  · (intro w hSw; (try dsimp only at hSw); refine congrArg some ?_; go_simp <;> with_reducible rfl)
  (try dsimp only []); (try simp only [Act.put, List.setIfInBounds_toArray, List.set_cons_zero, List.set_cons_succ])
  refine wpAnyH_yield (i := 3) 6 (v := ?_) (by kernel_rfl) (by kernel_rfl) (by kernel_rfl) (by kernel_rfl) (by kernel_rfl) (fun _ _ _ h => h) (by assumption) ?_ ?_
  rotate_left
  · (intro w hSw; (try dsimp only at hSw); refine congrArg some ?_; go_simp <;> with_reducible rfl)
  (try dsimp only []); (try simp only [Act.put, List.setIfInBounds_toArray, List.set_cons_zero, List.set_cons_succ])
  refine wpAnyH_yield (i := 4) 7 (v := ?_) (by kernel_rfl) (by kernel_rfl) (by kernel_rfl) (by kernel_rfl) (by kernel_rfl) (fun _ _ _ h => h) (by assumption) ?_ ?_
  rotate_left
  · (intro w hSw; (try dsimp only at hSw); refine congrArg some ?_; go_simp <;> with_reducible rfl)
  (try dsimp only []); (try simp only [Act.put, List.setIfInBounds_toArray, List.set_cons_zero, List.set_cons_succ])
  refine wpAnyH_yield (i := 5) 8 (v := ?_) (by kernel_rfl) (by kernel_rfl) (by kernel_rfl) (by kernel_rfl) (by kernel_rfl) (fun _ _ _ h => h) (by assumption) ?_ ?_
  rotate_left
  · (intro w hSw; (try dsimp only at hSw); refine congrArg some ?_; go_simp <;> with_reducible rfl)
  (try dsimp only []); (try simp only [Act.put, List.setIfInBounds_toArray, List.set_cons_zero, List.set_cons_succ])
  refine wpAnyH_yield (i := 6) 9 (v := ?_) (by kernel_rfl) (by kernel_rfl) (by kernel_rfl) (by kernel_rfl) (by kernel_rfl) (fun _ _ _ h => h) (by assumption) ?_ ?_
  rotate_left
  · (intro w hSw; (try dsimp only at hSw); refine congrArg some ?_; go_simp <;> with_reducible rfl)
  (try dsimp only []); (try simp only [Act.put, List.setIfInBounds_toArray, List.set_cons_zero, List.set_cons_succ])
  refine wpAnyH_yield (i := 7) 10 (v := ?_) (by kernel_rfl) (by kernel_rfl) (by kernel_rfl) (by kernel_rfl) (by kernel_rfl) (fun _ _ _ h => h) (by assumption) ?_ ?_
  rotate_left
  · (intro w hSw; (try dsimp only at hSw); refine congrArg some ?_; go_simp <;> with_reducible rfl)
  (try dsimp only []); (try simp only [Act.put, List.setIfInBounds_toArray, List.set_cons_zero, List.set_cons_succ])
  refine wpAnyH_yield (i := 8) 11 (v := ?_) (by kernel_rfl) (by kernel_rfl) (by kernel_rfl) (by kernel_rfl) (by kernel_rfl) (fun _ _ _ h => h) (by assumption) ?_ ?_
  rotate_left
  · (intro w hSw; (try dsimp only at hSw); refine congrArg some ?_; go_simp <;> with_reducible rfl)
  (try dsimp only []); (try simp only [Act.put, List.setIfInBounds_toArray, List.set_cons_zero, List.set_cons_succ])
  refine wpAnyH_yield (i := 9) 12 (v := ?_) (by kernel_rfl) (by kernel_rfl) (by kernel_rfl) (by kernel_rfl) (by kernel_rfl) (fun _ _ _ h => h) (by assumption) ?_ ?_
  rotate_left
  · (intro w hSw; (try dsimp only at hSw); refine congrArg some ?_; go_simp <;> with_reducible rfl)
  (try dsimp only []); (try simp only [Act.put, List.setIfInBounds_toArray, List.set_cons_zero, List.set_cons_succ])
  refine wpAnyH_yield (i := 10) 13 (v := ?_) (by kernel_rfl) (by kernel_rfl) (by kernel_rfl) (by kernel_rfl) (by kernel_rfl) (fun _ _ _ h => h) (by assumption) ?_ ?_
  rotate_left
  · (intro w hSw; (try dsimp only at hSw); refine congrArg some ?_; go_simp <;> with_reducible rfl)
  (try dsimp only []); (try simp only [Act.put, List.setIfInBounds_toArray, List.set_cons_zero, List.set_cons_succ])
  refine wpAnyH_yield (i := 11) 14 (v := ?_) (by kernel_rfl) (by kernel_rfl) (by kernel_rfl) (by kernel_rfl) (by kernel_rfl) (fun _ _ _ h => h) (by assumption) ?_ ?_
  rotate_left
  · (intro w hSw; (try dsimp only at hSw); refine congrArg some ?_; go_simp <;> with_reducible rfl)
  (try dsimp only []); (try simp only [Act.put, List.setIfInBounds_toArray, List.set_cons_zero, List.set_cons_succ])
  refine wpAnyH_yield (i := 13) 16 (v := ?_) (by kernel_rfl) (by kernel_rfl) (by kernel_rfl) (by kernel_rfl) (by kernel_rfl) (fun _ _ _ h => h) (by assumption) ?_ ?_
  rotate_left
  · (intro w hSw; (try dsimp only at hSw); refine congrArg some ?_; go_simp <;> with_reducible rfl)
  (try dsimp only []); (try simp only [Act.put, List.setIfInBounds_toArray, List.set_cons_zero, List.set_cons_succ])
  refine wpAnyH_yield (i := 14) 17 (v := ?_) (by kernel_rfl) (by kernel_rfl) (by kernel_rfl) (by kernel_rfl) (by kernel_rfl) (fun _ _ _ h => h) (by assumption) ?_ ?_
  rotate_left
  · (intro w hSw; (try dsimp only at hSw); refine congrArg some ?_; go_simp <;> with_reducible rfl)
  (try dsimp only []); (try simp only [Act.put, List.setIfInBounds_toArray, List.set_cons_zero, List.set_cons_succ])
  refine wpAnyH_yield (i := 15) 18 (v := ?_) (by kernel_rfl) (by kernel_rfl) (by kernel_rfl) (by kernel_rfl) (by kernel_rfl) (fun _ _ _ h => h) (by assumption) ?_ ?_
  rotate_left
  · (intro w hSw; (try dsimp only at hSw); refine congrArg some ?_; go_simp <;> with_reducible rfl)
  (try dsimp only []); (try simp only [Act.put, List.setIfInBounds_toArray, List.set_cons_zero, List.set_cons_succ])
  refine wpAnyH_yield (i := 16) 19 (v := ?_) (by kernel_rfl) (by kernel_rfl) (by kernel_rfl) (by kernel_rfl) (by kernel_rfl) (fun _ _ _ h => h) (by assumption) ?_ ?_
  rotate_left
  · (intro w hSw; (try dsimp only at hSw); refine congrArg some ?_; go_simp <;> with_reducible rfl)
  (try dsimp only []); (try simp only [Act.put, List.setIfInBounds_toArray, List.set_cons_zero, List.set_cons_succ])
  refine wpAnyH_ready (rs := [12]) (by kernel_rfl) (by simp) ?_
  refine AllReadyH.cons rfl (fun K hK => ?_) ?_
  · have H1 := Lib.hid (((Below.refl w.heap.size w).drew).alloc (Nat.le_refl _) (.cells #[] 4))
    go_simp
    refine hK.out _ _ ?_ (fun hHeld => ?_)
    · (try dsimp only); (first | exact HC.out _ H0.out | exact HC.out _ H1.out | exact HC.out _ H2.out)
    clear hK K
    (try dsimp only []); (try simp only [Act.put, List.setIfInBounds_toArray, List.set_cons_zero, List.set_cons_succ])
    refine wpAnyH_ready (rs := [17]) (by kernel_rfl) (by simp) ?_
    refine AllReadyH.cons rfl (fun K hK => ?_) ?_
    · obtain ⟨g', c', w2, e2, hR2, hg2, hb2⟩ := append_recs_run (P := Tryd.prog) (W := w.drew) 28 28 4 _ 1 Tryd.underlying28 info_bool rfl (by decide) encB_len encB_one HBR.out.drew (by have := hm1; omega) (by decide)
      have H2 := Lib.hid (show Below w.heap.size w w2 from H0.out.trans hb2)
      have HR2 := Lib.hid (And.intro hR2 hg2)
      clear hR2 hg2 hb2
      go_simp
      rw [show (Builtin.append_ #[28, 28] 28 #[.slice (some ⟨w.heap.size, 0, none⟩) 0 0, .slice (some ⟨g, 0, none⟩) x.l.length cp]).run Tryd.prog (w.alloc (.cells #[] 4)).drew = _ from e2]
      go_simp
      refine hK.out _ _ ?_ (fun hHeld => ?_)
      · (try dsimp only); (first | exact HC.out _ H0.out | exact HC.out _ H1.out | exact HC.out _ H2.out)
      clear hK K
      (try dsimp only []); (try simp only [Act.put, List.setIfInBounds_toArray, List.set_cons_zero, List.set_cons_succ])
      refine wpAnyH_yield (i := 18) 21 (v := ?_) (by kernel_rfl) (by kernel_rfl) (by kernel_rfl) (by kernel_rfl) (by kernel_rfl) (fun _ _ _ h => h) (by assumption) ?_ ?_
      rotate_left
      · (intro w hSw; (try dsimp only at hSw); refine congrArg some ?_; go_simp <;> with_reducible rfl)
      (try dsimp only []); (try simp only [Act.put, List.setIfInBounds_toArray, List.set_cons_zero, List.set_cons_succ])
      refine wpAnyH_ready (rs := [19]) (by kernel_rfl) (by simp) ?_
      refine AllReadyH.cons rfl (fun K hK => ?_) ?_
      · go_simp
        refine hK.out _ _ ?_ (fun hHeld => ?_)
        · (try dsimp only); (first | exact HC.out _ H0.out | exact HC.out _ H1.out | exact HC.out _ (H2.out.alloc H2.out.size _))
        clear hK K
        (try dsimp only []); (try simp only [Act.put, List.setIfInBounds_toArray, List.set_cons_zero, List.set_cons_succ])
        refine wpAnyH_yield (i := 20) 2 (v := ?_) (by kernel_rfl) (by kernel_rfl) (by kernel_rfl) (by kernel_rfl) (by kernel_rfl) (fun _ _ _ h => h) (by assumption) ?_ ?_
        rotate_left
        · (intro w hSw; (try dsimp only at hSw); refine congrArg some ?_; go_simp <;> with_reducible rfl)
        (try dsimp only []); (try simp only [Act.put, List.setIfInBounds_toArray, List.set_cons_zero, List.set_cons_succ])
        refine wpAnyH_done (by kernel_rfl) ?_ _
        go_wp2_with fail
        go_ret
        have hlt := HR2.out.1.lt
        have hge : w.heap.size ≤ g' := HR2.out.2
        exact ⟨w2.heap.size, g', c', rfl, ⟨Blk.new w2 _ _, recs_bools (HR2.out.1.alloc _), by omega⟩, H2.out.size, hge, H2.out.alloc H2.out.size _⟩
      exact AllReadyH.nil
    exact AllReadyH.nil
  exact AllReadyH.nil

theorem mod1024 (b : Nat) : ((b : Int)).tmod 1024 = ((b % 1024 : Nat) : Int) := by rw [Int.tmod_eq_emod_of_nonneg (by omega)]; rfl
set_option maxHeartbeats 1000000 in
theorem rnew_no (w : World) (b c : Int) (h : ¬ newOk b c) : Calls Tryd.prog 31 #[.int .i64 b, .int .i64 0, .int .i64 c, .int .i64 1048576] w fun e w' => e = .returned (.tuple #[.pointer none, .int .i64 11]) ∧ Below w.heap.size w w' := by
  have HS := Lib.hid (Tab.rsize_calls 0 c w)
  rw [size_same] at HS
  by_cases h0 : b < 0
  · clear h
    go_enter Tryd.func31, Tryd.ntmps31
    go_wp2_with fail
    refine HS.out.mono ?_
    rintro e w1 ⟨rfl, hb⟩
    have H1 := Lib.hid hb
    clear hb
    go_wp2_with fail
    go_ret2
    exact ⟨rfl, H1.out⟩
  · obtain ⟨m, rfl⟩ := Int.eq_ofNat_of_zero_le (show 0 ≤ b by omega)
    have ha := mod1024 m
    have hm0 : (0 : Int) ≤ (m : Int) := by omega
    clear h0
    by_cases h1 : m % 1024 = 0
    · rw [h1] at ha
      by_cases h2 : (1047552 : Int) < (m : Int)
      · clear h h1
        go_enter Tryd.func31, Tryd.ntmps31
        go_wp2_with fail
        refine HS.out.mono ?_
        rintro e w1 ⟨rfl, hb⟩
        have H1 := Lib.hid hb
        clear hb
        go_wp2_with fail
        go_ret2
        exact ⟨rfl, H1.out⟩
      · have h3 : Tab.sizeV c = 0 := by
          by_cases e : Tab.sizeV c = 0
          · exact e
          · exact absurd ⟨by omega, by omega, by omega, e⟩ h
        rw [h3] at HS
        clear h h1 h3
        go_enter Tryd.func31, Tryd.ntmps31
        go_wp2_with fail
        refine HS.out.mono ?_
        rintro e w1 ⟨rfl, hb⟩
        have H1 := Lib.hid hb
        clear hb
        go_wp2_with fail
        go_ret2
        exact ⟨rfl, H1.out⟩
    · have h3 : (((m % 1024 : Nat) : Int) == 0) = false := by rw [beq_eq_false_iff_ne]; omega
      clear h
      generalize m % 1024 = r at *
      go_enter Tryd.func31, Tryd.ntmps31
      go_wp2_with fail
      refine HS.out.mono ?_
      rintro e w1 ⟨rfl, hb⟩
      have H1 := Lib.hid hb
      clear hb
      go_wp2_with fail
      go_ret2
      exact ⟨rfl, H1.out⟩
set_option maxHeartbeats 1000000 in
theorem rnew_yes (w : World) (b c : Nat) (h : newOk b c) : Calls Tryd.prog 31 #[.int .i64 b, .int .i64 0, .int .i64 c, .int .i64 1048576] w fun e w' => ∃ q g cp, e = .returned (.tuple #[.pointer (some ⟨q, 0, none⟩), .int .i64 0]) ∧ RfP w' q g cp (newX b c) ∧ w.heap.size ≤ q ∧ w.heap.size ≤ g ∧ Below w.heap.size w w' := by
  have hok := newX_ok h
  obtain ⟨hm1, hm2, _⟩ := hok.many
  have hz1 := hok.z1
  have hz2 := hok.z2
  have HS := Lib.hid (Tab.rsize_calls 0 (c : Int) w)
  rw [size_same, show Tab.sizeV (c : Int) = ((newX b c).z : Int) from hok.size] at HS
  have HX := Lib.hid (show (newX b c).b = b ∧ (newX b c).c = c ∧ (newX b c).l = List.replicate (newX b c).l.length false from ⟨rfl, rfl, by simp [newX]⟩)
  have hb1 : (b : Int) ≤ 1047552 := h.2.2.1
  have hb2 : b % 1024 = 0 := by have := h.2.1; omega
  have ha := mod1024 b
  rw [hb2] at ha
  have hln := hok.len
  clear h hok hb2
  generalize newX b c = x at *
  have HW := Lib.hid (show (1024 : Int) / (x.z : Int) = (x.l.length : Int) from by
    rw [show (1024 : Int) / (x.z : Int) = ((1024 / x.z : Nat) : Int) by simp, ← hln])
  have hz0 : ((x.z : Int) == 0) = false := by rw [beq_eq_false_iff_ne]; omega
  have hz9 : ¬ (x.z : Int) = 0 := by omega
  have hz8 : ¬ x.z = 0 := by omega
  go_enter Tryd.func31, Tryd.ntmps31
  go_wp2_with fail
  refine HS.out.mono ?_
  rintro e w1 ⟨rfl, hb⟩
  have H1 := Lib.hid hb
  clear hb
  clear hz2 hln
  go_wp2_with (at_make; refine make_row _ rfl _ _ 28 rfl 4 Tryd.underlying28 (.bool false) 1 rfl info_bool _ _ x.l.length (congrArg (Value.int .i64) HW.out) (congrArg (Value.int .i64) HW.out) (by omega) (by decide) ?_)
  intro w2 hrow hlt hb
  have H2 := Lib.hid (And.intro hrow (And.intro hlt (H1.out.trans (hb.mono H1.out.size))))
  clear hrow hlt hb
  go_wp2_with fail
  go_ret2
  refine ⟨w2.heap.size, w1.heap.size, x.l.length, rfl, ⟨?_, ?_, ?_⟩, H2.out.2.2.size, H1.out.size, H2.out.2.2.alloc H2.out.2.2.size _⟩
  · rw [HX.out.1, HX.out.2.1]
    exact Blk.new w2 _ _
  · have h1 := H2.out.1.alloc (.cells #[.int .i64 (b : Int), .int .i64 0, .int .i64 (c : Int), .slice (some ⟨w1.heap.size, 0, none⟩) x.l.length x.l.length] DT)
    unfold BoolsAt
    rw [HX.out.2.2, List.map_replicate, List.length_replicate]
    exact h1
  · have := H2.out.2.1
    omega
end Go.Proofs.YtknieebmcpgppaaDoor.Old
