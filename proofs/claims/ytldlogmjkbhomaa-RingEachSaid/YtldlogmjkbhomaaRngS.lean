/- The contracts of package underpinref07's Put and Remove. -/
import Derived.Test.YtldlogmjkbhomaaRngR
set_option linter.unusedSimpArgs false
namespace Go.Proofs.Ytldlogmjkbhomaa.Rng
open Go.RowKit Go.Proofs.Ytldlogmjkbhomaa.Aid
/-- What an append leaves. -/
structure Gr (W : World) (b : Nat) (g' c' : Nat) (w' : World) (xs : List Nat) : Prop where
  recs : Recs enc1 1 w' IT g' c' xs
  hold : ∀ i, i < W.heap.size → i ≠ b → w'.heap[i]? = W.heap[i]?
  own : g' = b ∨ W.heap.size ≤ g'
  size : W.heap.size ≤ w'.heap.size
  os : w'.os = W.os
  tape : w'.tape = W.tape
  output : w'.output = W.output
theorem Gr.below {W w' w : World} {b g' c' : Nat} {xs : List Nat} {base : Nat} (h : Gr W b g' c' w' xs) (hb : Below base w W) (hbs : base ≤ W.heap.size) (h0 : base ≤ b) : Below base w w' ∧ base ≤ g' := by
  refine ⟨hb.trans ⟨h.os, h.tape, h.output, h.size, fun k hk => h.hold k (by omega) (by omega)⟩, ?_⟩
  rcases h.own with e | e
  · omega
  · omega
theorem ap_run (W : World) (g0 c0 : Nat) (hd : Value) (xs ys : List Nat) (h0 : Recs enc1 1 W IT g0 c0 xs) (hH : Hdr enc1 1 W IT hd ys) (hl : xs.length + ys.length ≤ 100000) :
    ∃ g1 c1 w', (Builtin.append_ #[68, 68] 68 #[.slice (some ⟨g0, 0, none⟩) xs.length c0, hd]).run Try.prog W = .ok (.slice (some ⟨g1, 0, none⟩) (xs.length + ys.length) c1) w' ∧ Gr W g0 g1 c1 w' (xs ++ ys) := by
  have hD : Hdr enc1 1 W IT (.slice (some ⟨g0, 0, none⟩) xs.length c0) xs := .inr ⟨g0, c0, rfl, h0⟩
  rcases hH with ⟨rfl, rfl⟩ | ⟨g, c, rfl, hR⟩
  · refine ⟨g0, c0, W, append_nil_run (P := Try.prog) 68 68 IT _ 8 Try.underlying68 info_int enc1_len hD, ?_, fun _ _ _ => rfl, .inl rfl, Nat.le_refl _, rfl, rfl, rfl⟩
    rw [List.append_nil]; exact h0
  · obtain ⟨g', c', w', e, hR', hold, hown, hz, z1, z2, z3⟩ := append_hdr_run (P := Try.prog) (W := W) 68 68 IT _ 8 Try.underlying68 info_int rfl (by decide) enc1_len enc1_one hD hR (.inl (by intro h; cases h)) (by omega) (by decide)
    refine ⟨g', c', w', e, hR', fun i hi hne => hold i hi (fun h => hne (Option.some.inj (h : some g0 = some i)).symm), ?_, hz, z1, z2, z3⟩
    rcases hown with h | h
    · exact .inl (Option.some.inj (h : some g0 = some g')).symm
    · exact .inr h
/-- What a call that writes leaves. -/
def LWrote (q : Nat) (F : List Nat) (N L : Nat) (s' : RgS) (w w' : World) : Prop := ∃ F', LAt w' q F' N L s' ∧ Kept F w w' ∧ ∀ x ∈ F', x ∈ F ∨ w.heap.size ≤ x
theorem lwrote_same {w : World} {q N L : Nat} {F : List Nat} {s : RgS} (h : LAt w q F N L s) : LWrote q F N L s w w := ⟨F, h, Kept.refl _ _, fun _ hx => .inl hx⟩
theorem lwrote_set {w W : World} {q N L : Nat} {F : List Nat} {s : RgS} {lb : Nat} {hs : List Value} {l : Nat} {xs : List Nat} {g c : Nat} (h : LParts w q F N L s lb hs) (hok : OkG N L (updL s l xs)) (hb : Below w.heap.size w W) (hg : w.heap.size ≤ g) (hR : Recs enc1 1 W IT g c xs) :
    LWrote q F N L (updL s l xs) w (W.setCell ⟨lb, l, none⟩ (.slice (some ⟨g, 0, none⟩) xs.length c)) := by
  have hsz : (W.setCell ⟨lb, l, none⟩ (.slice (some ⟨g, 0, none⟩) xs.length c)).heap.size = W.heap.size := by simp [World.setCell]
  have hlb := h.rows.lt
  have hq := h.head.lt
  have hget : ∀ j hd, (hs.set l (Value.slice (some ⟨g, 0, none⟩) xs.length c))[j]? = some hd → (j = l ∧ hd = .slice (some ⟨g, 0, none⟩) xs.length c) ∨ (j ≠ l ∧ hs[j]? = some hd) := fun j hd hj => by
    rw [List.getElem?_set] at hj
    by_cases e : l = j
    · subst e
      rw [if_pos rfl] at hj
      split at hj
      · exact .inl ⟨rfl, (Option.some.inj hj).symm⟩
      · cases hj
    · rw [if_neg e] at hj
      exact .inr ⟨fun e' => e e'.symm, hj⟩
  refine ⟨g :: F, ⟨hok, lb, hs.set l (.slice (some ⟨g, 0, none⟩) xs.length c), ⟨(h.head.below hb).other (a := ⟨lb, l, none⟩) h.ne _, (h.rows.below hb).store l _, by rw [List.length_set]; exact h.hlen, fun k hd hk => ?_, fun k hd g' hk hg' => ?_, ⟨by simp [h.ins.1], by simp [h.ins.2]⟩, h.ne, fun x hx => ?_⟩⟩, ?_, fun x hx => ?_⟩
  · rcases hget k hd hk with ⟨rfl, rfl⟩ | ⟨e, hk⟩
    · rw [updL_at]
      exact .inr ⟨g, c, rfl, hR.other (a := ⟨lb, k, none⟩) (by show g ≠ lb; omega) _⟩
    · rw [updL_ne _ _ e]
      refine ((h.each k hd hk).below hb).same fun g' hg' => Below.heap_setCell _ _ _ _ ?_
      exact (h.out k hd g' hk hg').2.2
  · rcases hget k hd hk with ⟨rfl, rfl⟩ | ⟨e, hk⟩
    · obtain rfl : g = g' := Option.some.inj (show some g = some g' from hg')
      exact ⟨by simp, by omega, by omega⟩
    · obtain ⟨a, b⟩ := h.out k hd g' hk hg'
      exact ⟨by simp [a], b⟩
  · rw [hsz]
    rcases List.mem_cons.1 hx with rfl | hx
    · exact hR.lt
    · exact Nat.lt_of_lt_of_le (h.flt x hx) hb.size
  · refine (Kept.of_below hb F).trans ?_
    exact ⟨rfl, rfl, rfl, by rw [hsz]; exact Nat.le_refl _, fun i _ hF => Below.heap_setCell _ _ _ _ (by intro e; exact hF (by rw [e]; exact h.ins.2))⟩
  · rcases List.mem_cons.1 hx with rfl | hx
    · exact .inr hg
    · exact .inl hx
section
variable (w : World) (q : Nat) (F : List Nat) (N L : Nat) (s : RgS)
theorem in_none {s : RgS} {L : Nat} {N : Nat} (hok : OkG N L s) {x : Nat} {a b : Int} (h : InAt s L x a b) : (lk s L x).a = a := by
  rcases h with ⟨rfl, rfl, h⟩ | ⟨l, A, y, B, rfl, rfl, hl, e, hy⟩
  · exact (lk_a_none hok).2 fun l hx => h l (hok.lL hx) x hx rfl
  · obtain rfl : x = y := Int.ofNat_inj.1 hy
    rw [lk_at hok e]
set_option maxHeartbeats 8000000 in
set_option maxRecDepth 20000 in
attribute [-go_sem] Builtin.append_ in
theorem rput_front (l x : Nat) (h : LAt w q F N L s) (hl : l < L) (hx : x < N) (hxn : ∀ k, x ∉ s k) :
    Calls Try.prog 72 #[.pointer (some ⟨q, 0, none⟩), .int .i64 l, .int .i64 x, .bool true] w fun e w' => e = .returned (.int .i64 0) ∧ LWrote q F N L (updL s l (x :: s l)) w w' := by
  have HI := Lib.hid (rin_calls w q F N L s x h)
  have hok := h.ok
  obtain ⟨lb, hs, hP⟩ := h.ex
  have HInn := Lib.hid (fun (a b : Int) (hab : InAt s L x a b) => show a = -1 from by rw [← in_none hok hab]; exact (lk_a_none hok).2 hxn)
  have c0 := hP.c0
  have c1 := hP.c1
  obtain ⟨hd, hk, hc, hH⟩ := hP.row hl
  have hf := hP.rows.free l
  have hN := hok.n
  have hL := hok.l2
  have hb1 := ((Below.refl w.heap.size w).alloc (Nat.le_refl _) (.cells #[.int .i64 x] 3)).drew
  have hr1 : Recs enc1 1 (w.alloc (.cells #[.int .i64 x] 3)).drew IT w.heap.size 1 [x] := (Recs.lit w x IT enc1_len).drew
  obtain ⟨g1, cc, w1, hrun, hG⟩ := ap_run (w.alloc (.cells #[.int .i64 x] 3)).drew w.heap.size 1 hd [x] (s l) hr1 (hH.below hb1) (by have := hok.len l; simp; omega)
  have hsum : ([x].length + (s l).length) = (s l).length + 1 := by simp [Nat.add_comm]
  rw [hsum] at hrun
  replace hrun : (Builtin.append_ #[68, 68] 68 #[.slice (some ⟨w.heap.size, 0, none⟩) 1 1, hd]).run Try.prog (w.alloc (.cells #[.int .i64 x] 3)).drew = .ok (.slice (some ⟨g1, 0, none⟩) ((s l).length + 1) cc) w1 := hrun
  have hB := hG.below hb1 hb1.size (Nat.le_refl _)
  have c1b := (hP.head.below hB.1).cell (o := 1) rfl
  have hf1 := (hP.rows.below hB.1).free l
  have HX := Lib.hid (And.intro hP (And.intro hB hG))
  have l0 : (0 : Int) ≤ (l : Int) := by omega
  have l1 : (l : Int) < (L : Int) := by omega
  have x0 : (0 : Int) ≤ (x : Int) := by omega
  have x1 : (x : Int) < (N : Int) := by omega
  have hR2 := hG.recs
  have HFin := Lib.hid (lwrote_set hP (ok_ins (A := []) (B := s l) hok rfl hl hxn hx) hB.1 hB.2 hR2)
  have hrow : ∀ W, Below w.heap.size w W → W.cell? ⟨lb, l, none⟩ = some hd := fun W hb => by
    have hlt : l < hs.length := by rw [hP.hlen]; exact hl
    rw [(hP.rows.below hb).cell hlt, hk]
  have hcA := hrow _ ((Below.refl w.heap.size w).alloc (Nat.le_refl _) (.cells #[.int .i64 x] 3))
  have hc1 := hrow _ hB.1
  have S0 := Lib.hid c1
  have S1 := Lib.hid ((hP.head.below hb1).cell (o := 1) rfl)
  have S2 := Lib.hid c1b
  have S3 := Lib.hid (((hP.head.below hB.1).other (a := ⟨lb, l, none⟩) hP.ne (.slice (some ⟨g1, 0, none⟩) ((s l).length + 1) cc)).cell (o := 1) rfl)
  clear hR2 hrow
  have HRun := Lib.hid (And.intro hrun (And.intro c1b (And.intro hf1 (And.intro hf (And.intro hcA hc1)))))
  clear h hP hH hb1 hr1 hG hB hok hsum hk hxn hN hL hl hx hrun c1b hf1 hf hcA hc1
  go_enter Try.func72, Try.ntmps72
  go_wp2_with fail
  refine HI.out.mono ?_
  rintro e w2 ⟨⟨a, b, rfl, hab⟩, rfl⟩
  obtain rfl := HInn.out a b hab
  clear hab HI HInn
  go_upto_region 7 with fail
  obtain ⟨hrun, c1b, hf1, hf, hcA, hc1⟩ := HRun.out
  go_cut [] (fun wc => LWrote q F N L (updL s l (x :: s l)) w wc)
  case first =>
    -- TREE 72 |~ 7 |~ 13 |~ fun w' => w'.cell? ⟨q, 1, none⟩ = some (.slice (some ⟨lb, 0, none⟩) L L) |~ (first | exact S0.out | exact S1.out | exact S2.out | exact S3.out) |~ 4 |~ (go_wp2_with fail);;(go_meet);;(exact HFin.out)
    refine wp_region_held_drew (S := fun w' => w'.cell? ⟨q, 1, none⟩ = some (.slice (some ⟨lb, 0, none⟩) L L)) (by kernel_rfl) ?_ (fun hHeld => ?_)
    · (try dsimp only); (first | exact S0.out | exact S1.out | exact S2.out | exact S3.out)
    refine wpAnyH_take (i := 0) (v := ?_) rfl (by kernel_rfl) (by kernel_rfl) (by kernel_rfl) (fun _ _ _ h => h) (Or.inl ⟨by rfl, ?_⟩) (by assumption) ?_
    rotate_left
    · (intro w hSw; (try dsimp only at hSw); go_simp <;> with_reducible rfl)
    (try simp only [Act.put, List.setIfInBounds_toArray, List.set_cons_zero, List.set_cons_succ])
    refine wpAnyH_take (i := 1) (v := ?_) rfl (by kernel_rfl) (by kernel_rfl) (by kernel_rfl) (fun _ _ _ h => h) (Or.inl ⟨by rfl, ?_⟩) (by assumption) ?_
    rotate_left
    · (intro w hSw; (try dsimp only at hSw); go_simp <;> with_reducible rfl)
    (try simp only [Act.put, List.setIfInBounds_toArray, List.set_cons_zero, List.set_cons_succ])
    refine wpAnyH_take (i := 2) (v := ?_) rfl (by kernel_rfl) (by kernel_rfl) (by kernel_rfl) (fun _ _ _ h => h) (Or.inl ⟨by rfl, ?_⟩) (by assumption) ?_
    rotate_left
    · (intro w hSw; (try dsimp only at hSw); go_simp <;> with_reducible rfl)
    (try simp only [Act.put, List.setIfInBounds_toArray, List.set_cons_zero, List.set_cons_succ])
    refine wpAnyH_take (i := 3) (v := ?_) rfl (by kernel_rfl) (by kernel_rfl) (by kernel_rfl) (fun _ _ _ h => h) (Or.inl ⟨by rfl, ?_⟩) (by assumption) ?_
    rotate_left
    · (intro w hSw; (try dsimp only at hSw); go_simp <;> with_reducible rfl)
    (try simp only [Act.put, List.setIfInBounds_toArray, List.set_cons_zero, List.set_cons_succ])
    refine wpAnyH_take (i := 4) (v := ?_) rfl (by kernel_rfl) (by kernel_rfl) (by kernel_rfl) (fun _ _ _ h => h) (Or.inl ⟨by rfl, ?_⟩) (by assumption) ?_
    rotate_left
    · (intro w hSw; (try dsimp only at hSw); go_simp <;> with_reducible rfl)
    (try simp only [Act.put, List.setIfInBounds_toArray, List.set_cons_zero, List.set_cons_succ])
    refine wpAnyH_take (i := 5) (v := ?_) rfl (by kernel_rfl) (by kernel_rfl) (by kernel_rfl) (fun _ _ _ h => h) (Or.inl ⟨by rfl, ?_⟩) (by assumption) ?_
    rotate_left
    · (intro w hSw; (try dsimp only at hSw); go_simp <;> with_reducible rfl)
    (try simp only [Act.put, List.setIfInBounds_toArray, List.set_cons_zero, List.set_cons_succ])
    refine wpAnyH_take (i := 7) (v := ?_) rfl (by kernel_rfl) (by kernel_rfl) (by kernel_rfl) (fun _ _ _ h => h) (Or.inl ⟨by rfl, ?_⟩) (by assumption) ?_
    rotate_left
    · (intro w hSw; (try dsimp only at hSw); go_simp <;> with_reducible rfl)
    (try simp only [Act.put, List.setIfInBounds_toArray, List.set_cons_zero, List.set_cons_succ])
    refine wpAnyH_take (i := 8) (v := ?_) rfl (by kernel_rfl) (by kernel_rfl) (by kernel_rfl) (fun _ _ _ h => h) (Or.inl ⟨by rfl, ?_⟩) (by assumption) ?_
    rotate_left
    · (intro w hSw; (try dsimp only at hSw); go_simp <;> with_reducible rfl)
    (try simp only [Act.put, List.setIfInBounds_toArray, List.set_cons_zero, List.set_cons_succ])
    refine wpAnyH_take (i := 9) (v := ?_) rfl (by kernel_rfl) (by kernel_rfl) (by kernel_rfl) (fun _ _ _ h => h) (Or.inl ⟨by rfl, ?_⟩) (by assumption) ?_
    rotate_left
    · (intro w hSw; (try dsimp only at hSw); go_simp <;> with_reducible rfl)
    (try simp only [Act.put, List.setIfInBounds_toArray, List.set_cons_zero, List.set_cons_succ])
    refine wpAnyH_take (i := 10) (v := ?_) rfl (by kernel_rfl) (by kernel_rfl) (by kernel_rfl) (fun _ _ _ h => h) (Or.inl ⟨by rfl, ?_⟩) (by assumption) ?_
    rotate_left
    · (intro w hSw; (try dsimp only at hSw); go_simp <;> with_reducible rfl)
    (try simp only [Act.put, List.setIfInBounds_toArray, List.set_cons_zero, List.set_cons_succ])
    refine wpAnyH_take (i := 11) (v := ?_) rfl (by kernel_rfl) (by kernel_rfl) (by kernel_rfl) (fun _ _ _ h => h) (Or.inl ⟨by rfl, ?_⟩) (by assumption) ?_
    rotate_left
    · (intro w hSw; (try dsimp only at hSw); go_simp <;> with_reducible rfl)
    (try simp only [Act.put, List.setIfInBounds_toArray, List.set_cons_zero, List.set_cons_succ])
    refine wpAnyH_take (i := 12) (v := ?_) rfl (by kernel_rfl) (by kernel_rfl) (by kernel_rfl) (fun _ _ _ h => h) (Or.inl ⟨by rfl, ?_⟩) (by assumption) ?_
    rotate_left
    · (intro w hSw; (try dsimp only at hSw); go_simp <;> with_reducible rfl)
    (try simp only [Act.put, List.setIfInBounds_toArray, List.set_cons_zero, List.set_cons_succ])
    refine wpAnyH_ready (rs := [6, 13]) (by kernel_rfl) (by simp) ?_
    refine AllReadyH.cons rfl (fun K hK => ?_) ?_
    · go_simp
      refine hK.out _ _ ?_ (fun hHeld => ?_)
      · (try dsimp only); (first | exact S0.out | exact S1.out | exact S2.out | exact S3.out)
      clear hK K
      (try simp only [Act.put, List.setIfInBounds_toArray, List.set_cons_zero, List.set_cons_succ])
      refine wpAnyH_ready (rs := [13]) (by kernel_rfl) (by simp) ?_
      refine AllReadyH.cons rfl (fun K hK => ?_) ?_
      · go_simp
        refine hK.out _ _ ?_ (fun hHeld => ?_)
        · (try dsimp only); (first | exact S0.out | exact S1.out | exact S2.out | exact S3.out)
        clear hK K
        (try simp only [Act.put, List.setIfInBounds_toArray, List.set_cons_zero, List.set_cons_succ])
        refine wpAnyH_ready (rs := [14]) (by kernel_rfl) (by simp) ?_
        refine AllReadyH.cons rfl (fun K hK => ?_) ?_
        · go_simp
          refine hK.out _ _ ?_ (fun hHeld => ?_)
          · (try dsimp only); (first | exact S0.out | exact S1.out | exact S2.out | exact S3.out)
          clear hK K
          (try simp only [Act.put, List.setIfInBounds_toArray, List.set_cons_zero, List.set_cons_succ])
          refine wpAnyH_take (i := 15) (v := ?_) rfl (by kernel_rfl) (by kernel_rfl) (by kernel_rfl) (fun _ _ _ h => h) (Or.inl ⟨by rfl, ?_⟩) (by assumption) ?_
          rotate_left
          · (intro w hSw; (try dsimp only at hSw); go_simp <;> with_reducible rfl)
          (try simp only [Act.put, List.setIfInBounds_toArray, List.set_cons_zero, List.set_cons_succ])
          refine wpAnyH_ready (rs := [16]) (by kernel_rfl) (by simp) ?_
          refine AllReadyH.cons rfl (fun K hK => ?_) ?_
          · go_simp
            refine hK.out _ _ ?_ (fun hHeld => ?_)
            · (try dsimp only); (first | exact S0.out | exact S1.out | exact S2.out | exact S3.out)
            clear hK K
            (try simp only [Act.put, List.setIfInBounds_toArray, List.set_cons_zero, List.set_cons_succ])
            refine wpAnyH_done (by kernel_rfl) ?_ _
            (go_wp2_with fail)
            (go_meet)
            (exact HFin.out)
          exact AllReadyH.nil
        exact AllReadyH.nil
      exact AllReadyH.nil
    refine AllReadyH.cons rfl (fun K hK => ?_) ?_
    · go_simp
      refine hK.out _ _ ?_ (fun hHeld => ?_)
      · (try dsimp only); (first | exact S0.out | exact S1.out | exact S2.out | exact S3.out)
      clear hK K
      (try simp only [Act.put, List.setIfInBounds_toArray, List.set_cons_zero, List.set_cons_succ])
      refine wpAnyH_ready (rs := [6]) (by kernel_rfl) (by simp) ?_
      refine AllReadyH.cons rfl (fun K hK => ?_) ?_
      · go_simp
        refine hK.out _ _ ?_ (fun hHeld => ?_)
        · (try dsimp only); (first | exact S0.out | exact S1.out | exact S2.out | exact S3.out)
        clear hK K
        (try simp only [Act.put, List.setIfInBounds_toArray, List.set_cons_zero, List.set_cons_succ])
        refine wpAnyH_ready (rs := [14]) (by kernel_rfl) (by simp) ?_
        refine AllReadyH.cons rfl (fun K hK => ?_) ?_
        · go_simp
          refine hK.out _ _ ?_ (fun hHeld => ?_)
          · (try dsimp only); (first | exact S0.out | exact S1.out | exact S2.out | exact S3.out)
          clear hK K
          (try simp only [Act.put, List.setIfInBounds_toArray, List.set_cons_zero, List.set_cons_succ])
          refine wpAnyH_take (i := 15) (v := ?_) rfl (by kernel_rfl) (by kernel_rfl) (by kernel_rfl) (fun _ _ _ h => h) (Or.inl ⟨by rfl, ?_⟩) (by assumption) ?_
          rotate_left
          · (intro w hSw; (try dsimp only at hSw); go_simp <;> with_reducible rfl)
          (try simp only [Act.put, List.setIfInBounds_toArray, List.set_cons_zero, List.set_cons_succ])
          refine wpAnyH_ready (rs := [16]) (by kernel_rfl) (by simp) ?_
          refine AllReadyH.cons rfl (fun K hK => ?_) ?_
          · go_simp
            refine hK.out _ _ ?_ (fun hHeld => ?_)
            · (try dsimp only); (first | exact S0.out | exact S1.out | exact S2.out | exact S3.out)
            clear hK K
            (try simp only [Act.put, List.setIfInBounds_toArray, List.set_cons_zero, List.set_cons_succ])
            refine wpAnyH_done (by kernel_rfl) ?_ _
            (go_wp2_with fail)
            (go_meet)
            (exact HFin.out)
          exact AllReadyH.nil
        exact AllReadyH.nil
      exact AllReadyH.nil
    exact AllReadyH.nil
    -- END
  case rest =>
  have HC := Lib.hid hcut
  go_wp2_with fail
  go_ret
  exact ⟨rfl, HC.out⟩
end
end Go.Proofs.Ytldlogmjkbhomaa.Rng
