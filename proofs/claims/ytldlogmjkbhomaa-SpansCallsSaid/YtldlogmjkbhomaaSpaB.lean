/- The contract of package spans' place, Can. -/
import Derived.Test.YtldlogmjkbhomaaSpaA
import Derived.Test.YtldlogmjkbhomaaAidRound
set_option linter.unusedSimpArgs false
namespace Go.Proofs.Ytldlogmjkbhomaa.Spa
open Go.RowKit Go.Proofs.Ytldlogmjkbhomaa.Aid
def idxI : Option Nat → Int
  | none => -1
  | some j => (j : Int)
theorem bestT_succ (n : Int) (a : Nat) (xs : List Rn) (k : Nat) : bestT n a xs (k + 1) = if holdsR n a (xs.getD k r0) && beats (xs.getD k r0) ((bestT n a xs k).map fun j => xs.getD j r0) then some k else bestT n a xs k := rfl
section
variable (w : World) (p : Nat) (F : List Nat) (P : Nat) (xs : List Rn) (h : SpAt w p F P xs)
include h
set_option maxHeartbeats 4000000 in
set_option maxRecDepth 8000 in
theorem place_calls (n a : Int) (ha : isPow a = true) (ha2 : a ≤ 4096) : Calls Try.prog 86 #[.pointer (some ⟨p, 0, none⟩), .int .i64 n, .int .i64 a] w fun e w' => e = .returned (.int .i64 (idxI (bestT n a.toNat xs xs.length))) ∧ Below w.heap.size w w' := by
  obtain ⟨hd, hP⟩ := h.ex
  have c1 := hP.c1
  have HBk := Lib.hid hP.head
  have hn := fun k (hk : k < xs.length) => (pos_n h.ok hk).2
  have hP4 := h.ok.n
  have HN := Lib.hid (show ∀ k, k < xs.length → (xs.getD k r0).p + (xs.getD k r0).n ≤ 4096 from fun k hk => by have := hn k hk; omega)
  have hL := len_le h.ok
  obtain ⟨A, c, rfl, hat⟩ := Hdr.open3 hP.runs
  have HAt := Lib.hid hat
  have HA := Lib.hid (And.intro ha ha2)
  clear hat hP h hn hP4 ha ha2
  go_enter Try.func86, Try.ntmps86
  go_wp2
  go_loopw [7, 15] (fun s i wr => ∃ k : Nat, i = .int .i64 k ∧ k ≤ xs.length ∧ s = .int .i64 (idxI (bestT n a.toNat xs k)) ∧ Below w.heap.size w wr) (fun _ i _ => xs.length - (intOf i).toNat)
  case atStart => exact ⟨0, rfl, by omega, rfl, Below.refl _ _⟩
  case round =>
    obtain ⟨k, rfl, hk, rfl, hb⟩ := hrel
    have HB := Lib.hid hb
    clear hb c1
    by_cases hlt : k < xs.length
    · obtain ⟨g, rfl, k0, k1, k2⟩ := HAt.out k hlt
      have hgl : g < w.heap.size := World.block_lt_of_cell? _ _ k0
      have k0' := (HB.out.cell (p := ⟨g, _, none⟩) hgl).trans k0
      have k1' := (HB.out.cell (p := ⟨g, _, none⟩) hgl).trans k1
      have k2' := (HB.out.cell (p := ⟨g, _, none⟩) hgl).trans k2
      have hn := HN.out k hlt
      have hk0 : (0 : Int) ≤ (k : Int) := by omega
      have hk1 : (k : Int) < (xs.length : Int) := by omega
      have hz : wr.heap.size ≠ g := by have := HB.out.size; omega
      have hbk := Blk.new wr (encR (xs.getD k r0)).toArray RT
      have hbz := HB.out.alloc HB.out.size (.cells (encR (xs.getD k r0)).toArray RT)
      have HT := Lib.hid (bestT_succ n a.toNat xs k)
      have HHo := Lib.hid (fun W => holds_calls W (xs.getD k r0) n a hn HA.out.1 HA.out.2)
      clear k0 k1 k2
      generalize hr : xs.getD k r0 = r at *
      go_upto_region 5 with fail
      unfold encR at hbk hbz
      generalize wr.alloc (.cells #[.int .i64 r.p, .int .i64 r.n, .bool r.t] RT) = wx at hbk hbz ⊢
      generalize wr.heap.size = bq at hbk ⊢
      have HZ := Lib.hid hbz
      have HS := Lib.hid (fun W (hb : Below wx.heap.size wx W) => (show W.cell? ⟨bq, 0, none⟩ = some (.int .i64 r.p) ∧ W.cell? ⟨bq, 1, none⟩ = some (.int .i64 r.n) ∧ W.cell? ⟨bq, 2, none⟩ = some (.bool r.t) ∧ W.cell? ⟨p, 1, none⟩ = some (.slice (some ⟨g, 0, none⟩) xs.length c) from
        ⟨(hbk.below hb).cell (o := 0) rfl, (hbk.below hb).cell (o := 1) rfl, (hbk.below hb).cell (o := 2) rfl, (HBk.out.below (HZ.out.trans (hb.mono HZ.out.size))).cell (o := 1) rfl⟩))
      have hb0 := Lib.hid ((Below.refl wx.heap.size wx).drew)
      clear hbk hbz k0' k1' k2' hz hgl
      cases hh : holdsR n a.toNat r with
      | false =>
        rw [hh] at HHo HT
        refine wp_region_held_drew (S := fun w' => w'.cell? ⟨bq, 0, none⟩ = some (.int .i64 r.p) ∧ w'.cell? ⟨bq, 1, none⟩ = some (.int .i64 r.n) ∧ w'.cell? ⟨bq, 2, none⟩ = some (.bool r.t) ∧ w'.cell? ⟨p, 1, none⟩ = some (.slice (some ⟨g, 0, none⟩) xs.length c)) (by kernel_rfl) ?_ (fun hHeld => ?_)
        · (try dsimp only); (first | exact HS.out _ hb1.out | exact HS.out _ hb0.out)
        refine wpAnyH_yield (i := 0) 20 (v := ?_) (by kernel_rfl) (by kernel_rfl) (by kernel_rfl) (by kernel_rfl) (by kernel_rfl) (fun _ _ _ h => h) (by assumption) ?_ ?_
        rotate_left
        · (intro w hSw; (try dsimp only at hSw); refine congrArg some ?_; go_simp <;> with_reducible rfl)
        (try dsimp only []); (try simp only [Act.put, List.setIfInBounds_toArray, List.set_cons_zero, List.set_cons_succ])
        refine wpAnyH_yield (i := 1) 21 (v := ?_) (by kernel_rfl) (by kernel_rfl) (by kernel_rfl) (by kernel_rfl) (by kernel_rfl) (fun _ _ _ h => h) (by assumption) ?_ ?_
        rotate_left
        · (intro w hSw; (try dsimp only at hSw); refine congrArg some ?_; go_simp <;> with_reducible rfl)
        (try dsimp only []); (try simp only [Act.put, List.setIfInBounds_toArray, List.set_cons_zero, List.set_cons_succ])
        refine wpAnyH_yield (i := 2) 22 (v := ?_) (by kernel_rfl) (by kernel_rfl) (by kernel_rfl) (by kernel_rfl) (by kernel_rfl) (fun _ _ _ h => h) (by assumption) ?_ ?_
        rotate_left
        · (intro w hSw; (try dsimp only at hSw); refine congrArg some ?_; go_simp <;> with_reducible rfl)
        (try dsimp only []); (try simp only [Act.put, List.setIfInBounds_toArray, List.set_cons_zero, List.set_cons_succ])
        refine wpAnyH_ready (rs := [3]) (by kernel_rfl) (by simp) ?_
        refine AllReadyH.cons rfl (fun K hK => ?_) ?_
        · go_simp
          (go_at_call 100; (refine (Calls.mono (HHo.out _) ?_)); rintro e w1 ⟨rfl, hb⟩; have hb1 := Lib.hid (below_then hb0.out hb))
          (try simp only [])
          refine hK.out _ _ ?_ (fun hHeld => ?_)
          · (try dsimp only); (first | exact HS.out _ hb1.out | exact HS.out _ hb0.out)
          clear hK K
          (try dsimp only []); (try simp only [Act.put, List.setIfInBounds_toArray, List.set_cons_zero, List.set_cons_succ])
          refine wpAnyH_yield (i := 4) 24 (v := ?_) (by kernel_rfl) (by kernel_rfl) (by kernel_rfl) (by kernel_rfl) (by kernel_rfl) (fun _ _ _ h => h) (by assumption) ?_ ?_
          rotate_left
          · (intro w hSw; (try dsimp only at hSw); refine congrArg some ?_; go_simp <;> with_reducible rfl)
          (try dsimp only []); (try simp only [Act.put, List.setIfInBounds_toArray, List.set_cons_zero, List.set_cons_succ])
          refine wpAnyH_skip (i := 5) 25 (by kernel_rfl) (by kernel_rfl) (by kernel_rfl) (by kernel_rfl) (by kernel_rfl) (fun _ _ _ h => h) (by assumption) ?_
          (try dsimp only []); (try simp only [Act.put, List.setIfInBounds_toArray, List.set_cons_zero, List.set_cons_succ])
          refine wpAnyH_skip (i := 6) 26 (by kernel_rfl) (by kernel_rfl) (by kernel_rfl) (by kernel_rfl) (by kernel_rfl) (fun _ _ _ h => h) (by assumption) ?_
          (try dsimp only []); (try simp only [Act.put, List.setIfInBounds_toArray, List.set_cons_zero, List.set_cons_succ])
          refine wpAnyH_skip (i := 7) 27 (by kernel_rfl) (by kernel_rfl) (by kernel_rfl) (by kernel_rfl) (by kernel_rfl) (fun _ _ _ h => h) (by assumption) ?_
          (try dsimp only []); (try simp only [Act.put, List.setIfInBounds_toArray, List.set_cons_zero, List.set_cons_succ])
          refine wpAnyH_skip (i := 8) 28 (by kernel_rfl) (by kernel_rfl) (by kernel_rfl) (by kernel_rfl) (by kernel_rfl) (fun _ _ _ h => h) (by assumption) ?_
          (try dsimp only []); (try simp only [Act.put, List.setIfInBounds_toArray, List.set_cons_zero, List.set_cons_succ])
          refine wpAnyH_skip (i := 9) 29 (by kernel_rfl) (by kernel_rfl) (by kernel_rfl) (by kernel_rfl) (by kernel_rfl) (fun _ _ _ h => h) (by assumption) ?_
          (try dsimp only []); (try simp only [Act.put, List.setIfInBounds_toArray, List.set_cons_zero, List.set_cons_succ])
          refine wpAnyH_skip (i := 10) 30 (by kernel_rfl) (by kernel_rfl) (by kernel_rfl) (by kernel_rfl) (by kernel_rfl) (fun _ _ _ h => h) (by assumption) ?_
          (try dsimp only []); (try simp only [Act.put, List.setIfInBounds_toArray, List.set_cons_zero, List.set_cons_succ])
          refine wpAnyH_skip (i := 11) 31 (by kernel_rfl) (by kernel_rfl) (by kernel_rfl) (by kernel_rfl) (by kernel_rfl) (fun _ _ _ h => h) (by assumption) ?_
          (try dsimp only []); (try simp only [Act.put, List.setIfInBounds_toArray, List.set_cons_zero, List.set_cons_succ])
          refine wpAnyH_skip (i := 12) 32 (by kernel_rfl) (by kernel_rfl) (by kernel_rfl) (by kernel_rfl) (by kernel_rfl) (fun _ _ _ h => h) (by assumption) ?_
          (try dsimp only []); (try simp only [Act.put, List.setIfInBounds_toArray, List.set_cons_zero, List.set_cons_succ])
          refine wpAnyH_skip (i := 13) 33 (by kernel_rfl) (by kernel_rfl) (by kernel_rfl) (by kernel_rfl) (by kernel_rfl) (fun _ _ _ h => h) (by assumption) ?_
          (try dsimp only []); (try simp only [Act.put, List.setIfInBounds_toArray, List.set_cons_zero, List.set_cons_succ])
          refine wpAnyH_skip (i := 14) 34 (by kernel_rfl) (by kernel_rfl) (by kernel_rfl) (by kernel_rfl) (by kernel_rfl) (fun _ _ _ h => h) (by assumption) ?_
          (try dsimp only []); (try simp only [Act.put, List.setIfInBounds_toArray, List.set_cons_zero, List.set_cons_succ])
          refine wpAnyH_skip (i := 15) 35 (by kernel_rfl) (by kernel_rfl) (by kernel_rfl) (by kernel_rfl) (by kernel_rfl) (fun _ _ _ h => h) (by assumption) ?_
          (try dsimp only []); (try simp only [Act.put, List.setIfInBounds_toArray, List.set_cons_zero, List.set_cons_succ])
          refine wpAnyH_skip (i := 16) 36 (by kernel_rfl) (by kernel_rfl) (by kernel_rfl) (by kernel_rfl) (by kernel_rfl) (fun _ _ _ h => h) (by assumption) ?_
          (try dsimp only []); (try simp only [Act.put, List.setIfInBounds_toArray, List.set_cons_zero, List.set_cons_succ])
          refine wpAnyH_skip (i := 17) 37 (by kernel_rfl) (by kernel_rfl) (by kernel_rfl) (by kernel_rfl) (by kernel_rfl) (fun _ _ _ h => h) (by assumption) ?_
          (try dsimp only []); (try simp only [Act.put, List.setIfInBounds_toArray, List.set_cons_zero, List.set_cons_succ])
          refine wpAnyH_skip (i := 18) 38 (by kernel_rfl) (by kernel_rfl) (by kernel_rfl) (by kernel_rfl) (by kernel_rfl) (fun _ _ _ h => h) (by assumption) ?_
          (try dsimp only []); (try simp only [Act.put, List.setIfInBounds_toArray, List.set_cons_zero, List.set_cons_succ])
          refine wpAnyH_skip (i := 19) 39 (by kernel_rfl) (by kernel_rfl) (by kernel_rfl) (by kernel_rfl) (by kernel_rfl) (fun _ _ _ h => h) (by assumption) ?_
          (try dsimp only []); (try simp only [Act.put, List.setIfInBounds_toArray, List.set_cons_zero, List.set_cons_succ])
          refine wpAnyH_yield (i := 20) 40 (v := ?_) (by kernel_rfl) (by kernel_rfl) (by kernel_rfl) (by kernel_rfl) (by kernel_rfl) (fun _ _ _ h => h) (by assumption) ?_ ?_
          rotate_left
          · (intro w hSw; (try dsimp only at hSw); refine congrArg some ?_; go_simp <;> with_reducible rfl)
          (try dsimp only []); (try simp only [Act.put, List.setIfInBounds_toArray, List.set_cons_zero, List.set_cons_succ])
          refine wpAnyH_done (by kernel_rfl) ?_ _
          go_wp2_with fail
          go_roundw
          case rel => exact ⟨k + 1, by go_num, by omega, by rw [HT.out]; rfl, HZ.out.trans (hb1.out.mono HZ.out.size)⟩
          case measure => simp [intOf]; omega
        exact AllReadyH.nil
      | true =>
        rw [hh] at HHo HT
        cases hbt : bestT n a.toNat xs k with
        | none =>
          rw [hbt] at HT
          simp only [Option.map_none, beats, Bool.and_self, if_true] at HT
          rw [show idxI none = -1 from rfl]
          refine wp_region_held_drew (S := fun w' => w'.cell? ⟨bq, 0, none⟩ = some (.int .i64 r.p) ∧ w'.cell? ⟨bq, 1, none⟩ = some (.int .i64 r.n) ∧ w'.cell? ⟨bq, 2, none⟩ = some (.bool r.t) ∧ w'.cell? ⟨p, 1, none⟩ = some (.slice (some ⟨g, 0, none⟩) xs.length c)) (by kernel_rfl) ?_ (fun hHeld => ?_)
          · (try dsimp only); (first | exact HS.out _ hb1.out | exact HS.out _ hb0.out)
          refine wpAnyH_yield (i := 0) 20 (v := ?_) (by kernel_rfl) (by kernel_rfl) (by kernel_rfl) (by kernel_rfl) (by kernel_rfl) (fun _ _ _ h => h) (by assumption) ?_ ?_
          rotate_left
          · (intro w hSw; (try dsimp only at hSw); refine congrArg some ?_; go_simp <;> with_reducible rfl)
          (try dsimp only []); (try simp only [Act.put, List.setIfInBounds_toArray, List.set_cons_zero, List.set_cons_succ])
          refine wpAnyH_yield (i := 1) 21 (v := ?_) (by kernel_rfl) (by kernel_rfl) (by kernel_rfl) (by kernel_rfl) (by kernel_rfl) (fun _ _ _ h => h) (by assumption) ?_ ?_
          rotate_left
          · (intro w hSw; (try dsimp only at hSw); refine congrArg some ?_; go_simp <;> with_reducible rfl)
          (try dsimp only []); (try simp only [Act.put, List.setIfInBounds_toArray, List.set_cons_zero, List.set_cons_succ])
          refine wpAnyH_yield (i := 2) 22 (v := ?_) (by kernel_rfl) (by kernel_rfl) (by kernel_rfl) (by kernel_rfl) (by kernel_rfl) (fun _ _ _ h => h) (by assumption) ?_ ?_
          rotate_left
          · (intro w hSw; (try dsimp only at hSw); refine congrArg some ?_; go_simp <;> with_reducible rfl)
          (try dsimp only []); (try simp only [Act.put, List.setIfInBounds_toArray, List.set_cons_zero, List.set_cons_succ])
          refine wpAnyH_ready (rs := [3]) (by kernel_rfl) (by simp) ?_
          refine AllReadyH.cons rfl (fun K hK => ?_) ?_
          · go_simp
            (go_at_call 100; (refine (Calls.mono (HHo.out _) ?_)); rintro e w1 ⟨rfl, hb⟩; have hb1 := Lib.hid (below_then hb0.out hb))
            (try simp only [])
            refine hK.out _ _ ?_ (fun hHeld => ?_)
            · (try dsimp only); (first | exact HS.out _ hb1.out | exact HS.out _ hb0.out)
            clear hK K
            (try dsimp only []); (try simp only [Act.put, List.setIfInBounds_toArray, List.set_cons_zero, List.set_cons_succ])
            refine wpAnyH_yield (i := 4) 24 (v := ?_) (by kernel_rfl) (by kernel_rfl) (by kernel_rfl) (by kernel_rfl) (by kernel_rfl) (fun _ _ _ h => h) (by assumption) ?_ ?_
            rotate_left
            · (intro w hSw; (try dsimp only at hSw); refine congrArg some ?_; go_simp <;> with_reducible rfl)
            (try dsimp only []); (try simp only [Act.put, List.setIfInBounds_toArray, List.set_cons_zero, List.set_cons_succ])
            refine wpAnyH_yield (i := 5) 25 (v := ?_) (by kernel_rfl) (by kernel_rfl) (by kernel_rfl) (by kernel_rfl) (by kernel_rfl) (fun _ _ _ h => h) (by assumption) ?_ ?_
            rotate_left
            · (intro w hSw; (try dsimp only at hSw); refine congrArg some ?_; go_simp <;> with_reducible rfl)
            (try dsimp only []); (try simp only [Act.put, List.setIfInBounds_toArray, List.set_cons_zero, List.set_cons_succ])
            refine wpAnyH_yield (i := 6) 26 (v := ?_) (by kernel_rfl) (by kernel_rfl) (by kernel_rfl) (by kernel_rfl) (by kernel_rfl) (fun _ _ _ h => h) (by assumption) ?_ ?_
            rotate_left
            · (intro w hSw; (try dsimp only at hSw); refine congrArg some ?_; go_simp <;> with_reducible rfl)
            (try dsimp only []); (try simp only [Act.put, List.setIfInBounds_toArray, List.set_cons_zero, List.set_cons_succ])
            refine wpAnyH_yield (i := 7) 27 (v := ?_) (by kernel_rfl) (by kernel_rfl) (by kernel_rfl) (by kernel_rfl) (by kernel_rfl) (fun _ _ _ h => h) (by assumption) ?_ ?_
            rotate_left
            · (intro w hSw; (try dsimp only at hSw); refine congrArg some ?_; go_simp <;> with_reducible rfl)
            (try dsimp only []); (try simp only [Act.put, List.setIfInBounds_toArray, List.set_cons_zero, List.set_cons_succ])
            refine wpAnyH_skip (i := 8) 28 (by kernel_rfl) (by kernel_rfl) (by kernel_rfl) (by kernel_rfl) (by kernel_rfl) (fun _ _ _ h => h) (by assumption) ?_
            (try dsimp only []); (try simp only [Act.put, List.setIfInBounds_toArray, List.set_cons_zero, List.set_cons_succ])
            refine wpAnyH_skip (i := 9) 29 (by kernel_rfl) (by kernel_rfl) (by kernel_rfl) (by kernel_rfl) (by kernel_rfl) (fun _ _ _ h => h) (by assumption) ?_
            (try dsimp only []); (try simp only [Act.put, List.setIfInBounds_toArray, List.set_cons_zero, List.set_cons_succ])
            refine wpAnyH_skip (i := 10) 30 (by kernel_rfl) (by kernel_rfl) (by kernel_rfl) (by kernel_rfl) (by kernel_rfl) (fun _ _ _ h => h) (by assumption) ?_
            (try dsimp only []); (try simp only [Act.put, List.setIfInBounds_toArray, List.set_cons_zero, List.set_cons_succ])
            refine wpAnyH_skip (i := 11) 31 (by kernel_rfl) (by kernel_rfl) (by kernel_rfl) (by kernel_rfl) (by kernel_rfl) (fun _ _ _ h => h) (by assumption) ?_
            (try dsimp only []); (try simp only [Act.put, List.setIfInBounds_toArray, List.set_cons_zero, List.set_cons_succ])
            refine wpAnyH_skip (i := 12) 32 (by kernel_rfl) (by kernel_rfl) (by kernel_rfl) (by kernel_rfl) (by kernel_rfl) (fun _ _ _ h => h) (by assumption) ?_
            (try dsimp only []); (try simp only [Act.put, List.setIfInBounds_toArray, List.set_cons_zero, List.set_cons_succ])
            refine wpAnyH_skip (i := 13) 33 (by kernel_rfl) (by kernel_rfl) (by kernel_rfl) (by kernel_rfl) (by kernel_rfl) (fun _ _ _ h => h) (by assumption) ?_
            (try dsimp only []); (try simp only [Act.put, List.setIfInBounds_toArray, List.set_cons_zero, List.set_cons_succ])
            refine wpAnyH_skip (i := 14) 34 (by kernel_rfl) (by kernel_rfl) (by kernel_rfl) (by kernel_rfl) (by kernel_rfl) (fun _ _ _ h => h) (by assumption) ?_
            (try dsimp only []); (try simp only [Act.put, List.setIfInBounds_toArray, List.set_cons_zero, List.set_cons_succ])
            refine wpAnyH_skip (i := 15) 35 (by kernel_rfl) (by kernel_rfl) (by kernel_rfl) (by kernel_rfl) (by kernel_rfl) (fun _ _ _ h => h) (by assumption) ?_
            (try dsimp only []); (try simp only [Act.put, List.setIfInBounds_toArray, List.set_cons_zero, List.set_cons_succ])
            refine wpAnyH_skip (i := 16) 36 (by kernel_rfl) (by kernel_rfl) (by kernel_rfl) (by kernel_rfl) (by kernel_rfl) (fun _ _ _ h => h) (by assumption) ?_
            (try dsimp only []); (try simp only [Act.put, List.setIfInBounds_toArray, List.set_cons_zero, List.set_cons_succ])
            refine wpAnyH_skip (i := 17) 37 (by kernel_rfl) (by kernel_rfl) (by kernel_rfl) (by kernel_rfl) (by kernel_rfl) (fun _ _ _ h => h) (by assumption) ?_
            (try dsimp only []); (try simp only [Act.put, List.setIfInBounds_toArray, List.set_cons_zero, List.set_cons_succ])
            refine wpAnyH_skip (i := 18) 38 (by kernel_rfl) (by kernel_rfl) (by kernel_rfl) (by kernel_rfl) (by kernel_rfl) (fun _ _ _ h => h) (by assumption) ?_
            (try dsimp only []); (try simp only [Act.put, List.setIfInBounds_toArray, List.set_cons_zero, List.set_cons_succ])
            refine wpAnyH_yield (i := 19) 39 (v := ?_) (by kernel_rfl) (by kernel_rfl) (by kernel_rfl) (by kernel_rfl) (by kernel_rfl) (fun _ _ _ h => h) (by assumption) ?_ ?_
            rotate_left
            · (intro w hSw; (try dsimp only at hSw); refine congrArg some ?_; go_simp <;> with_reducible rfl)
            (try dsimp only []); (try simp only [Act.put, List.setIfInBounds_toArray, List.set_cons_zero, List.set_cons_succ])
            refine wpAnyH_yield (i := 20) 40 (v := ?_) (by kernel_rfl) (by kernel_rfl) (by kernel_rfl) (by kernel_rfl) (by kernel_rfl) (fun _ _ _ h => h) (by assumption) ?_ ?_
            rotate_left
            · (intro w hSw; (try dsimp only at hSw); refine congrArg some ?_; go_simp <;> with_reducible rfl)
            (try dsimp only []); (try simp only [Act.put, List.setIfInBounds_toArray, List.set_cons_zero, List.set_cons_succ])
            refine wpAnyH_done (by kernel_rfl) ?_ _
            go_wp2_with fail
            go_roundw
            case rel => exact ⟨k + 1, by go_num, by omega, by rw [HT.out]; rfl, HZ.out.trans (hb1.out.mono HZ.out.size)⟩
            case measure => simp [intOf]; omega
          exact AllReadyH.nil
        | some j =>
          rw [hbt] at HT
          simp only [Option.map_some, beats, Bool.true_and] at HT
          have hjk := (bestT_in hbt).1
          obtain ⟨g', hg', j0, j1, j2⟩ := HAt.out j (by omega)
          obtain rfl : g = g' := by injection hg' with e; injection e
          have HJ := Lib.hid (fun W (hb : Below wx.heap.size wx W) => ((HZ.out.trans (hb.mono HZ.out.size)).cell (p := ⟨g, _, none⟩) (World.block_lt_of_cell? _ _ j1)).trans j1)
          rw [show idxI (some j) = (j : Int) from rfl]
          have hj1 : ((j : Int) == -1) = false := by simp
          have hj2 : (0 : Int) ≤ (j : Int) := by omega
          have hj3 : (j : Int) < (xs.length : Int) := by omega
          clear hg' j0 j1 j2 hjk hbt
          generalize hs : xs.getD j r0 = s at HT HJ
          by_cases hc : r.n < s.n
          all_goals
            have hc2 : (((r.n : Nat) : Int) < (s.n : Nat)) ∨ ¬ (((r.n : Nat) : Int) < (s.n : Nat)) := by omega
            clear hc2
            go_region_held3 (fun w' => w'.cell? ⟨bq, 0, none⟩ = some (.int .i64 r.p) ∧ w'.cell? ⟨bq, 1, none⟩ = some (.int .i64 r.n) ∧ w'.cell? ⟨bq, 2, none⟩ = some (.bool r.t) ∧ w'.cell? ⟨p, 1, none⟩ = some (.slice (some ⟨g, 0, none⟩) xs.length c) ∧ w'.cell? ⟨g, j * 3 + 1, none⟩ = some (.int .i64 s.n))
              (first | exact ⟨(HS.out _ hb1.out).1, (HS.out _ hb1.out).2.1, (HS.out _ hb1.out).2.2.1, (HS.out _ hb1.out).2.2.2, HJ.out _ hb1.out⟩ | exact ⟨(HS.out _ hb0.out).1, (HS.out _ hb0.out).2.1, (HS.out _ hb0.out).2.2.1, (HS.out _ hb0.out).2.2.2, HJ.out _ hb0.out⟩)
              ((go_at_call 100; (refine (Calls.mono (HHo.out _) ?_)); rintro e w1 ⟨rfl, hb⟩; have hb1 := Lib.hid (below_then hb0.out hb)))
            go_wp2_with fail
            go_roundw
            case rel => exact ⟨k + 1, by go_num, by omega, by rw [HT.out]; simp [hc, idxI], HZ.out.trans (hb1.out.mono HZ.out.size)⟩
            case measure => simp [intOf]; omega
    · obtain rfl : k = xs.length := by omega
      go_wp2
      go_ret
      exact ⟨rfl, HB.out⟩
theorem can_calls (n a : Int) : Calls Try.prog 55 #[.pointer (some ⟨p, 0, none⟩), .int .i64 n, .int .i64 a] w fun e w' => e = .returned (.bool (bestA n a xs).isSome) ∧ Below w.heap.size w w' := by
  have HR := Lib.hid (right_calls w n a)
  unfold bestA
  cases hr : rightR n a with
  | false =>
    rw [hr] at HR
    clear hr h
    go_enter Try.func55, Try.ntmps55
    go_wp2_with fail
    refine HR.out.mono ?_
    rintro e w1 ⟨rfl, rfl⟩
    go_wp2_with fail
    go_ret
    exact ⟨rfl, Below.refl _ _⟩
  | true =>
    rw [hr] at HR
    unfold rightR at hr
    simp only [Bool.and_eq_true, decide_eq_true_eq] at hr
    have HP := Lib.hid (place_calls w p F P xs h n a hr.2.1 hr.2.2)
    rw [if_pos rfl]
    clear hr h
    cases hb : bestT n a.toNat xs xs.length with
    | none =>
      rw [hb, show idxI none = -1 from rfl] at HP
      go_enter Try.func55, Try.ntmps55
      go_wp2_with fail
      refine HR.out.mono ?_
      rintro e w1 ⟨rfl, rfl⟩
      go_wp2_with fail
      refine HP.out.mono ?_
      rintro e w1 ⟨rfl, hb1⟩
      go_wp2_with fail
      go_ret
      exact ⟨rfl, hb1⟩
    | some j =>
      rw [hb, show idxI (some j) = (j : Int) from rfl] at HP
      have hj1 : ((j : Int) != -1) = true := by simp
      clear hb
      go_enter Try.func55, Try.ntmps55
      go_wp2_with fail
      refine HR.out.mono ?_
      rintro e w1 ⟨rfl, rfl⟩
      go_wp2_with fail
      refine HP.out.mono ?_
      rintro e w1 ⟨rfl, hb1⟩
      go_wp2_with fail
      go_ret
      exact ⟨ret_bool (by simp), hb1⟩
end
end Go.Proofs.Ytldlogmjkbhomaa.Spa
