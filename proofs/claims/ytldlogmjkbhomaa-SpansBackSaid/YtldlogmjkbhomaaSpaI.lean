/- The walk of SpansBack. -/
import Derived.Test.YtldlogmjkbhomaaSpaF
import Derived.Test.YtldlogmjkbhomaaSpaG
import Derived.Test.YtldlogmjkbhomaaSpaO
import Derived.Test.YtldlogmjkbhomaaSpaX
set_option linter.unusedSimpArgs false
namespace Go.Proofs.Ytldlogmjkbhomaa.Spa
open Go.RowKit Go.Proofs.Ytldlogmjkbhomaa.Aid
abbrev IS : TypeId := 68
def encI (x : Int) : List Value := [.int .i64 x]
theorem encI_len (x : Int) : (encI x).length = 1 := rfl
theorem encI_one (x : Int) : ∀ v ∈ encI x, v.oneCell' = true := by
  intro v hv
  simp [encI] at hv
  rw [hv]; rfl
theorem cell_of_heap {W W' : World} {b : Nat} (h : W'.heap[b]? = W.heap[b]?) (o : Nat) : W'.cell? ⟨b, o, none⟩ = W.cell? ⟨b, o, none⟩ := by
  unfold World.cell?
  rw [show W'.heap[b]? = W.heap[b]? from h]
theorem recs_ints {w : World} {g c : Nat} {vs : List Int} (h : Recs encI 1 w IT g c vs) : Ints w .i64 (some ⟨g, 0, none⟩) vs := fun k hk => by
  have hx : vs[k]? = some (vs.getD k 0) := by rw [List.getD_eq_getElem?_getD, List.getElem?_eq_getElem hk]; rfl
  have := h.at_ encI_len (j := 0) hx rfl
  exact ⟨g, 0, rfl, h.lt, by rw [Nat.zero_add]; simpa using this⟩
set_option maxHeartbeats 8000000 in
set_option maxRecDepth 100000 in
attribute [-go_sem] Builtin.append_ in
theorem back_yes (w : World) (P : Nat) (xs : List Cl) (A : Option Addr) (c : Nat) (at_ : Int) (hx : Cls w A xs) (hP : P ≤ 200) (hl : xs.length ≤ 100) :
    Calls Try.prog 11 #[.int .i64 P, .slice A xs.length c, .int .i64 at_] w fun e w' => e = .returned (.bool true) ∧ Below w.heap.size w w' := by
  have HX := Lib.hid hx
  have HG := Lib.hid (fun W : World => great_calls W P A xs.length c)
  rw [show (decide ((200 : Int) < (P : Int)) || decide (100 < xs.length)) = false by simp; omega] at HG
  clear hx
  go_enter Try.func11, Try.ntmps11
  go_wp2_with fail
  refine (alive_calls w).mono ?_
  rintro e w1 ⟨rfl, hb1⟩
  have HB1 := Lib.hid hb1
  clear hb1
  go_wp2_with fail
  refine (HG.out w1).mono ?_
  rintro e w2 ⟨rfl, rfl⟩
  go_wp2_with fail
  refine (new_yes w1 P (by omega)).mono ?_
  rintro e w2 ⟨p, F, rfl, hQ, hF, hb⟩
  have H2 := Lib.hid (show Hold w w2 p F P (xs0 P) from ⟨hQ, fun x hx => Nat.le_trans HB1.out.size (hF x hx), below_then HB1.out hb⟩)
  clear hQ hF hb HG HB1
  go_wp2_with fail
  go_loopw [9] (fun i wr => ∃ (k : Nat) (ys : List Rn) (F : List Nat), i = .int .i64 k ∧ k ≤ xs.length ∧ Hold w wr p F P ys) (fun i _ => xs.length - (intOf i).toNat)
  case atStart => exact ⟨0, _, F, rfl, by omega, H2.out⟩
  case round =>
    obtain ⟨k, ys, F, rfl, hk, hT⟩ := hrel
    have HT := Lib.hid hT
    clear hT H2
    by_cases hlt : k < xs.length
    · obtain ⟨bc, oc, rfl, hC⟩ := HX.out k hlt
      generalize xs.getD k cl0 = cl at hC
      have hC2 := hC.below HT.out.below
      have hk0 : (0 : Int) ≤ (k : Int) := by omega
      have hk1 : (k : Int) < (xs.length : Int) := by omega
      have HC := Lib.hid hC
      have d0 := hC2.c0
      obtain ⟨g, n, a⟩ := cl
      dsimp only at d0
      cases g with
      | true =>
        clear hC hC2
        go_wp2_with fail
        go_roundw
        case rel => exact ⟨k + 1, ys, F, by go_num, by omega, HT.out⟩
        case measure => simp [intOf]; omega
      | false =>
        have HS := Lib.hid (show wr.drew.cell? ⟨bc, oc + k * 3 + 1, none⟩ = some (.int .i64 n) ∧ wr.drew.cell? ⟨bc, oc + k * 3 + 2, none⟩ = some (.int .i64 a) from ⟨hC2.c1, hC2.c2⟩)
        have HTk := Lib.hid (take_calls wr.drew p F P ys (HT.out.sp.below (Below.refl _ _).drew) n a)
        have HTd := Lib.hid (HT.out.on (Below.refl wr.heap.size wr).drew)
        clear hC hC2
        go_wp2_with fail
        go_region_held3 (fun w' => w'.cell? ⟨bc, oc + k * 3 + 1, none⟩ = some (.int .i64 n) ∧ w'.cell? ⟨bc, oc + k * 3 + 2, none⟩ = some (.int .i64 a))
          (first | exact HS.out | exact HS2.out)
          ((go_at_call 57; (refine (Calls.mono HTk.out ?_)); rintro e w6 ⟨rfl, hTo⟩; obtain ⟨F6, hR', _⟩ := HTd.out.wrote hTo; have HR' := Lib.hid hR'; have HS2 := Lib.hid (And.intro (HC.out.below hR'.below).c1 (HC.out.below hR'.below).c2); clear hTo hR'))
        go_wp2_with fail
        go_roundw
        case rel => exact ⟨k + 1, _, F6, by go_num, by omega, HR'.out⟩
        case measure => simp [intOf]; omega
    · obtain rfl : k = xs.length := by omega
      clear hk hlt
      go_upto_region 14 with fail
      have hb := (Below.refl wr.heap.size wr).alloc (Nat.le_refl _) (.cells #[] IT)
      have hR0 : Recs encI 1 (wr.alloc (.cells #[] IT)) IT wr.heap.size 0 [] := ⟨⟨#[], Blk.new wr #[] _, rfl, rfl⟩, Nat.le_refl _, Nat.zero_le _⟩
      have H3 := Lib.hid (And.intro (HT.out.on hb) (And.intro hR0 (And.intro HT.out.below.size HT.out.sp.flt)))
      clear hb hR0 HT
      generalize wr.alloc (.cells #[] IT) = w3 at H3 ⊢
      generalize wr.heap.size = b0 at H3 ⊢
      go_wp2_with fail
      refine (runs_calls w3 p F P ys H3.out.1.sp).mono ?_
      rintro e w4 ⟨hd, rfl, hR, hown, hb⟩
      obtain ⟨A5, c5, rfl, hat⟩ := Hdr.open3 hR
      have HAt := Lib.hid (show ∀ k, k < ys.length → ∃ g, A5 = some ⟨g, 0, none⟩ ∧ ∀ W, Kept [b0] w4 W → (W.cell? ⟨g, k * 3, none⟩ = some (.int .i64 (ys.getD k r0).p) ∧ W.cell? ⟨g, k * 3 + 2, none⟩ = some (.bool (ys.getD k r0).t)) from fun k hk => by
        obtain ⟨g, rfl, k0, _, k2⟩ := hat k hk
        have hgl : g < w4.heap.size := World.block_lt_of_cell? _ _ k0
        have hg := hown g rfl
        have hb0 := H3.out.2.1.lt
        refine ⟨g, rfl, fun W hK => ?_⟩
        have e := hK.block g hgl (by simp; omega)
        exact ⟨(cell_of_heap e _).trans k0, (cell_of_heap e _).trans k2⟩)
      have H4 := Lib.hid (And.intro (H3.out.1.on hb) (And.intro (H3.out.2.1.below hb) H3.out.2.2))
      have hyl := len_le H4.out.1.sp.ok
      clear hR hown hb hat H3
      go_wp2_with fail
      go_loopw [10, 12] (fun s i wr => ∃ (k g c : Nat), i = .int .i64 k ∧ k ≤ ys.length ∧ s = .slice (some ⟨g, 0, none⟩) (tk (ys.take k)).length c ∧ Recs encI 1 wr IT g c (tk (ys.take k)) ∧ (g = b0 ∨ w4.heap.size ≤ g) ∧ Kept [b0] w4 wr) (fun _ i _ => ys.length - (intOf i).toNat)
      case atStart => exact ⟨0, b0, 0, rfl, by omega, rfl, H4.out.2.1, .inl rfl, Kept.refl _ _⟩
      case round =>
        obtain ⟨k, g, c, rfl, hk, rfl, hR, hg, hK⟩ := hrel
        have HR := Lib.hid (And.intro hR (And.intro hg hK))
        clear hR hg hK
        by_cases hlt : k < ys.length
        · obtain ⟨g5, rfl, hcs⟩ := HAt.out k hlt
          obtain ⟨cp, ct⟩ := hcs wr HR.out.2.2
          have hk0 : (0 : Int) ≤ (k : Int) := by omega
          have hk1 : (k : Int) < (ys.length : Int) := by omega
          have HS := Lib.hid (tk_step hlt)
          have HTL := Lib.hid (show (tk (ys.take k)).length ≤ 4096 from by
            have h1 := tk_len (ys.take k)
            rw [List.length_take] at h1
            omega)
          clear hcs
          generalize ys.getD k r0 = r at cp ct HS
          obtain ⟨rp, rn, rt⟩ := r
          dsimp only at cp ct
          generalize hV : tk (ys.take k) = vs at HR HS HTL ⊢
          cases rt with
          | false =>
            go_wp2_with fail
            go_roundw
            case rel => exact ⟨k + 1, g, c, by go_num, by omega, by rw [HS.out]; simp, by rw [HS.out]; simpa using HR.out.1, HR.out.2.1, HR.out.2.2⟩
            case measure => simp [intOf]; omega
          | true =>
            obtain ⟨g4, c4, w6, e4, hR4, hold, hown, hz4, y1, y2, y3⟩ := append_rec_run (P := Try.prog) (W := wr) IS IS IT (.int .i64 0) 8 Try.underlying68 info_int rfl (by decide) encI_len encI_one (.inr ⟨g, c, rfl, HR.out.1⟩) ((rp : Nat) : Int) (by have := HTL.out; omega) (by decide)
            unfold encI at e4
            have H6 := Lib.hid (show Recs encI 1 w6 IT g4 c4 (vs ++ [((rp : Nat) : Int)]) ∧ (g4 = b0 ∨ w4.heap.size ≤ g4) ∧ Kept [b0] w4 w6 from by
              have s1 := HR.out.2.2.size
              have s2 := HR.out.2.1
              refine ⟨hR4, ?_, ⟨y1.trans HR.out.2.2.os, y2.trans HR.out.2.2.tape, y3.trans HR.out.2.2.output, Nat.le_trans s1 hz4, fun k hk hF => (hold k (by omega) fun e => ?_).trans (HR.out.2.2.block k hk hF)⟩⟩
              · rcases hown with e | e
                · have := Option.some.inj (show some g = some g4 from e)
                  omega
                · omega
              · have := Option.some.inj (show some g = some k from e)
                simp at hF
                omega)
            clear hR4 hold hown hz4 y1 y2 y3
            go_wp2_with fail
            go_roundw
            case rel => exact ⟨k + 1, g4, c4, by go_num, by omega, by rw [HS.out]; simp, by rw [HS.out]; exact H6.out.1, H6.out.2.1, H6.out.2.2⟩
            case measure => simp [intOf]; omega
        · obtain rfl : k = ys.length := by omega
          rw [List.take_length] at HR ⊢
          have HTL := Lib.hid (show (tk ys).length ≤ 4096 from by
            have h1 := tk_len ys
            omega)
          clear hk hlt HAt
          generalize hV : tk ys = vs at HR HTL ⊢
          go_upto_region 20 with fail
          go_cut [88] (fun b wc => b = .bool (decide (at_ < 0) || decide ((vs.length : Int) < at_)) ∧ Recs encI 1 wc IT g c vs ∧ (g = b0 ∨ w4.heap.size ≤ g) ∧ Kept [b0] w4 wc)
          case first =>
            by_cases h1 : at_ < 0
            · go_wp2_with fail
              go_meet
              exact ⟨by simp [h1], HR.out⟩
            · by_cases h2 : (vs.length : Int) < at_
              · go_wp2_with fail
                go_meet
                exact ⟨by simp [h1, h2], HR.out⟩
              · go_wp2_with fail
                go_meet
                exact ⟨by simp [h1, h2], HR.out⟩
          case rest =>
          obtain ⟨rfl, hR⟩ := hcut
          clear HR
          have HR := Lib.hid hR
          clear hR
          rename_i hkk
          refine hkk _ _ ?_
          clear hkk
          go_cut [2] (fun m wc => ∃ m' : Nat, m = .int .i64 m' ∧ m' ≤ vs.length ∧ Recs encI 1 wc IT g c vs ∧ (g = b0 ∨ w4.heap.size ≤ g) ∧ Kept [b0] w4 wc)
          case first =>
            by_cases h1 : at_ < 0
            · rw [show (decide (at_ < 0) || decide ((vs.length : Int) < at_)) = true by simp [h1]]
              go_wp2_with fail
              go_meet
              exact ⟨0, rfl, by omega, HR.out⟩
            · by_cases h2 : (vs.length : Int) < at_
              · rw [show (decide (at_ < 0) || decide ((vs.length : Int) < at_)) = true by simp [h2]]
                go_wp2_with fail
                go_meet
                exact ⟨0, rfl, by omega, HR.out⟩
              · rw [show (decide (at_ < 0) || decide ((vs.length : Int) < at_)) = false by simp [h1, h2]]
                obtain ⟨m, rfl⟩ := Int.eq_ofNat_of_zero_le (show 0 ≤ at_ by omega)
                have h3 : m ≤ vs.length := by omega
                go_wp2_with fail
                go_meet
                exact ⟨m, rfl, h3, HR.out⟩
          case rest =>
          obtain ⟨m, rfl, hm, hR⟩ := hcut
          clear HR
          have HR := Lib.hid hR
          clear hR
          go_upto_region 22 with fail
          have hm1 : (m : Int) ≤ (vs.length : Int) := by omega
          have hlc := HR.out.1.cap
          have hmc : m ≤ c := by omega
          have hI := recs_ints HR.out.1
          have hAD : ∃ ad, (if c = m then some (⟨g, 0, none⟩ : Addr) else some ⟨g, m, none⟩) = some ad ∧ Ints wc .i64 (some ad) (vs.drop m) := by
            by_cases h1 : c = m
            · rw [if_pos h1]
              refine ⟨_, rfl, fun j hj => ?_⟩
              rw [List.length_drop] at hj
              omega
            · rw [if_neg h1]
              exact ⟨_, rfl, ints_drop hI m⟩
          obtain ⟨ad, had, hD⟩ := hAD
          have HI := Lib.hid (And.intro hD (And.intro (ints_take hI m) (show (vs.take m).length = m by rw [List.length_take]; omega)))
          have HAD := Lib.hid had
          clear hI hD had
          refine wp_region_held_drew (S := fun _ => True) (by kernel_rfl) ?_ (fun hHeld => ?_)
          · (try dsimp only); (try trivial)
          refine wpAnyH_yield (i := 1) 90 (v := ?_) (by kernel_rfl) (by kernel_rfl) (by kernel_rfl) (by kernel_rfl) (by kernel_rfl) (fun _ _ _ h => h) (by assumption) ?_ ?_
          rotate_left
          · (intro w hSw; (try dsimp only at hSw); refine congrArg some ?_; go_simp <;> with_reducible rfl)
          (try dsimp only []); (try simp only [Act.put, List.setIfInBounds_toArray, List.set_cons_zero, List.set_cons_succ])
          refine wpAnyH_yield (i := 2) 91 (v := ?_) (by kernel_rfl) (by kernel_rfl) (by kernel_rfl) (by kernel_rfl) (by kernel_rfl) (fun _ _ _ h => h) (by assumption) ?_ ?_
          rotate_left
          · (intro w hSw; (try dsimp only at hSw); refine congrArg some ?_; go_simp <;> with_reducible rfl)
          (try dsimp only []); (try simp only [Act.put, List.setIfInBounds_toArray, List.set_cons_zero, List.set_cons_succ])
          refine wpAnyH_yield (i := 3) 92 (v := ?_) (by kernel_rfl) (by kernel_rfl) (by kernel_rfl) (by kernel_rfl) (by kernel_rfl) (fun _ _ _ h => h) (by assumption) ?_ ?_
          rotate_left
          · (intro w hSw; (try dsimp only at hSw); refine congrArg some ?_; go_simp <;> with_reducible rfl)
          (try dsimp only []); (try simp only [Act.put, List.setIfInBounds_toArray, List.set_cons_zero, List.set_cons_succ])
          refine wpAnyH_yield (i := 5) 94 (v := ?_) (by kernel_rfl) (by kernel_rfl) (by kernel_rfl) (by kernel_rfl) (by kernel_rfl) (fun _ _ _ h => h) (by assumption) ?_ ?_
          rotate_left
          · (intro w hSw; (try dsimp only at hSw); refine congrArg some ?_; go_simp <;> with_reducible rfl)
          (try dsimp only []); (try simp only [Act.put, List.setIfInBounds_toArray, List.set_cons_zero, List.set_cons_succ])
          refine wpAnyH_yield (i := 6) 95 (v := ?_) (by kernel_rfl) (by kernel_rfl) (by kernel_rfl) (by kernel_rfl) (by kernel_rfl) (fun _ _ _ h => h) (by assumption) ?_ ?_
          rotate_left
          · (intro w hSw; (try dsimp only at hSw); refine congrArg some ?_; go_simp <;> with_reducible rfl)
          (try dsimp only []); (try simp only [Act.put, List.setIfInBounds_toArray, List.set_cons_zero, List.set_cons_succ])
          refine wpAnyH_yield (i := 7) 96 (v := ?_) (by kernel_rfl) (by kernel_rfl) (by kernel_rfl) (by kernel_rfl) (by kernel_rfl) (fun _ _ _ h => h) (by assumption) ?_ ?_
          rotate_left
          · (intro w hSw; (try dsimp only at hSw); refine congrArg some ?_; go_simp <;> with_reducible rfl)
          (try dsimp only []); (try simp only [Act.put, List.setIfInBounds_toArray, List.set_cons_zero, List.set_cons_succ])
          refine wpAnyH_ready (rs := [0]) (by kernel_rfl) (by simp) ?_
          refine AllReadyH.cons rfl (fun K hK => ?_) ?_
          · go_simp
            refine hK.out _ _ ?_ (fun hHeld => ?_)
            · (try dsimp only); (try trivial)
            clear hK K
            (try dsimp only []); (try simp only [Act.put, List.setIfInBounds_toArray, List.set_cons_zero, List.set_cons_succ])
            refine wpAnyH_ready (rs := [4]) (by kernel_rfl) (by simp) ?_
            refine AllReadyH.cons rfl (fun K hK => ?_) ?_
            · obtain ⟨v5, w5, e5, hO5, hb5, hn5⟩ := append_own_run (P := Try.prog) (W := (wc.alloc (.cells #[] 3)).drew) 68 68 wc.heap.size 3 .i64 8 Try.underlying68 info_int (.slice (some ⟨wc.heap.size, 0, none⟩) 0 0) [] (show Aid.Own _ _ _ _ _ _ from Aid.Own.lit0 wc wc.heap.size (Nat.le_refl _) 3 .i64) (by simp) (vs.drop m) ad (c - m)
                (HI.out.1.below (((Below.refl wc.heap.size wc).alloc (Nat.le_refl _) (.cells #[] 3)).drew)) (by have := HTL.out; simp; omega) (by have := HTL.out; simp; omega) (by show wc.heap.size ≤ (wc.alloc (.cells #[] 3)).heap.size; simp)
              rw [List.length_drop] at e5
              have H5 := Lib.hid (And.intro hO5 (((Below.refl wc.heap.size wc).alloc (Nat.le_refl _) (.cells #[] 3)).drew.trans hb5))
              clear hO5 hb5
              go_simp
              rw [HAD.out, e5]
              go_simp
              refine hK.out _ _ ?_ (fun hHeld => ?_)
              · (try dsimp only); (try trivial)
              clear hK K
              (try dsimp only []); (try simp only [Act.put, List.setIfInBounds_toArray, List.set_cons_zero, List.set_cons_succ])
              refine wpAnyH_ready (rs := [8]) (by kernel_rfl) (by simp) ?_
              refine AllReadyH.cons rfl (fun K hK => ?_) ?_
              · obtain ⟨v6, w6, e6, hO6, hb6, hn6⟩ := append_own_run (P := Try.prog) (W := w5) 68 68 wc.heap.size 3 .i64 8 Try.underlying68 info_int v5 ([] ++ vs.drop m) H5.out.1 hn5 (vs.take m) ⟨g, 0, none⟩ c
                  (HI.out.2.1.below H5.out.2) (by have := HTL.out; simp; omega) (by have := HTL.out; simp; omega) (by exact H5.out.2.size)
                rw [HI.out.2.2] at e6
                have H6 := Lib.hid (And.intro hO6 (H5.out.2.trans hb6))
                clear hO6 hb6 H5 hn5 e5
                go_simp
                refine hK.out _ _ ?_ (fun hHeld => ?_)
                · (try dsimp only); (try trivial)
                clear hK K
                (try dsimp only []); (try simp only [Act.put, List.setIfInBounds_toArray, List.set_cons_zero, List.set_cons_succ])
                refine wpAnyH_yield (i := 9) 10 (v := ?_) (by kernel_rfl) (by kernel_rfl) (by kernel_rfl) (by kernel_rfl) (by kernel_rfl) (fun _ _ _ h => h) (by assumption) ?_ ?_
                rotate_left
                · (intro w hSw; (try dsimp only at hSw); refine congrArg some ?_; go_simp <;> with_reducible rfl)
                (try dsimp only []); (try simp only [Act.put, List.setIfInBounds_toArray, List.set_cons_zero, List.set_cons_succ])
                refine wpAnyH_done (by kernel_rfl) ?_ _
                rw [List.nil_append] at H6
                obtain ⟨gl, cl, rfl, _, hr, hgl⟩ := Row.of_own H6.out.1 hn6
                have H7 := Lib.hid (show Hold w w6 p F P ys ∧ gl ∉ F ∧ Row w6 IT gl cl (vals (vs.drop m ++ vs.take m)) from by
                  obtain ⟨h1, h2, h3, h4⟩ := H4.out
                  have hz := HR.out.2.2.size
                  have hz4 := h1.below.size
                  have hF : ∀ x ∈ F, x ∉ [b0] := fun x hx => by have := h4 x hx; simp; omega
                  have hc : Hold w wc p F P ys := ⟨h1.sp.kept HR.out.2.2 hF, h1.base, h1.below.trans (HR.out.2.2.below hz4 (by simp; omega))⟩
                  refine ⟨hc.on H6.out.2, fun hx => ?_, hr⟩
                  have := hc.sp.flt gl hx
                  omega)
                have HLP := Lib.hid (show (vs.drop m ++ vs.take m).Perm (tk ys) from by
                  rw [hV]
                  exact List.perm_append_comm.trans (by rw [List.take_append_drop]))
                have hLL : (vs.drop m ++ vs.take m).length ≤ 4096 := by
                  have h1 := HTL.out
                  rw [List.length_append, List.length_drop, List.length_take]
                  omega
                clear hr hgl hn6 H6 HI HAD e6 H4 HR hV HTL hm hlc hmc hHeld
                generalize vs.drop m ++ vs.take m = ls at H7 HLP hLL ⊢
                go_wp2_with fail
                go_loopw [13] (fun i wr => ∃ (k : Nat) (zs : List Rn) (F : List Nat), i = .int .i64 k ∧ k ≤ ls.length ∧ Hold w wr p F P zs ∧ (ls.drop k).Perm (tk zs) ∧ gl ∉ F ∧ Row wr IT gl cl (vals ls)) (fun i _ => ls.length - (intOf i).toNat)
                case atStart => exact ⟨0, ys, F, rfl, by omega, H7.out.1, HLP.out, H7.out.2.1, H7.out.2.2⟩
                case round =>
                  obtain ⟨k, zs, F, rfl, hk, hH, hpm, hgF, hr⟩ := hrel
                  have HH := Lib.hid (And.intro hH (And.intro hgF hr))
                  clear hH hgF hr H7 HLP
                  by_cases hlt : k < ls.length
                  · have hx : ls[k]? = some (ls.getD k 0) := by rw [List.getD_eq_getElem?_getD, List.getElem?_eq_getElem hlt]; rfl
                    have cx := row_at HH.out.2.2 hx
                    rw [drop_int hlt] at hpm
                    have hk0 : (0 : Int) ≤ (k : Int) := by omega
                    have hk1 : (k : Int) < (ls.length : Int) := by omega
                    clear hx
                    generalize ls.getD k 0 = page at cx hpm
                    have hgm := give_mem hpm
                    have HGM := Lib.hid hgm.2
                    have hge := hgm.1
                    clear hgm hpm
                    go_wp2_with fail
                    refine (give_calls wr p F P zs HH.out.1.sp page).mono ?_
                    rintro e w8 ⟨rfl, hS⟩
                    rw [hge]
                    obtain ⟨F8, hH8, hK8, hF8⟩ := HH.out.1.wrote hS
                    have H8 := Lib.hid (show Hold w w8 p F8 P (giveS page zs) ∧ gl ∉ F8 ∧ Row w8 IT gl cl (vals ls) from ⟨hH8, fun hx => by
                      rcases hF8 gl hx with e | e
                      · exact HH.out.2.1 e
                      · have := HH.out.2.2.lt
                        omega, HH.out.2.2.kept hK8 HH.out.2.1⟩)
                    clear hS hH8 hK8 hF8 cx hge
                    go_wp2_with fail
                    go_roundw
                    case rel => exact ⟨k + 1, _, F8, by go_num, by omega, H8.out.1, HGM.out, H8.out.2.1, H8.out.2.2⟩
                    case measure => simp [intOf]; omega
                  · obtain rfl : k = ls.length := by omega
                    rw [List.drop_of_length_le (Nat.le_refl _)] at hpm
                    have hz := all_free HH.out.1.sp.ok (List.nil_perm.1 hpm)
                    clear hpm hlt hk
                    rcases hz with ⟨rfl, rfl⟩ | ⟨hP0, rfl⟩
                    · go_wp2_with fail
                      refine (runs_calls wr p F 0 [] HH.out.1.sp).mono ?_
                      rintro e w8 ⟨hd8, rfl, hR, _, hb⟩
                      obtain ⟨A8, c8, rfl, _⟩ := Hdr.open3 hR
                      have H8 := Lib.hid (HH.out.1.on hb)
                      clear hR hb HH
                      go_wp2_with fail
                      refine (free_calls w8 p F 0 [] H8.out.sp).mono ?_
                      rintro e w9 ⟨rfl, hb⟩
                      have H9 := Lib.hid (H8.out.on hb)
                      clear hb H8
                      rw [show freeN [] = 0 from rfl]
                      go_wp2_with fail
                      refine (largest_calls w9 p F 0 [] H9.out.sp).mono ?_
                      rintro e w10 ⟨rfl, hb⟩
                      have H10 := Lib.hid (H9.out.on hb)
                      clear hb H9
                      rw [show maxN [] = 0 from rfl]
                      go_wp2_with fail
                      go_ret
                      exact ⟨rfl, H10.out.below⟩
                    · have hfn : freeN [⟨0, P, false⟩] = P := by simp [freeN]
                      have hmn : maxN [⟨0, P, false⟩] = P := by simp [maxN]
                      go_wp2_with fail
                      refine (runs_calls wr p F P [⟨0, P, false⟩] HH.out.1.sp).mono ?_
                      rintro e w8 ⟨hd8, rfl, hR, _, hb⟩
                      obtain ⟨A8, c8, rfl, _⟩ := Hdr.open3 hR
                      have H8 := Lib.hid (HH.out.1.on hb)
                      clear hR hb HH
                      rw [show ([⟨0, P, false⟩] : List Rn).length = 1 from rfl]
                      go_wp2_with fail
                      refine (free_calls w8 p F P [⟨0, P, false⟩] H8.out.sp).mono ?_
                      rintro e w9 ⟨rfl, hb⟩
                      have H9 := Lib.hid (H8.out.on hb)
                      clear hb H8
                      rw [hfn]
                      go_wp2_with fail
                      refine (largest_calls w9 p F P [⟨0, P, false⟩] H9.out.sp).mono ?_
                      rintro e w10 ⟨rfl, hb⟩
                      have H10 := Lib.hid (H9.out.on hb)
                      clear hb H9
                      rw [hmn]
                      go_wp2_with fail
                      go_ret
                      exact ⟨rfl, H10.out.below⟩
              exact AllReadyH.nil
            exact AllReadyH.nil
          exact AllReadyH.nil
end Go.Proofs.Ytldlogmjkbhomaa.Spa
