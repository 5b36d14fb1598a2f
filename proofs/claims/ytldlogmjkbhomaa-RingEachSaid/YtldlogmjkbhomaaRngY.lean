/- The walk of RingEach. -/
import Derived.Test.YtldlogmjkbhomaaRngX
set_option linter.unusedSimpArgs false
namespace Go.Proofs.Ytldlogmjkbhomaa.Rng
open Go.RowKit Go.Proofs.Ytldlogmjkbhomaa.Aid
attribute [local go_sem] Oper.semAt_some
set_option maxHeartbeats 32000000 in
set_option maxRecDepth 8000 in
attribute [-go_sem] Builtin.append_ in
theorem each_yes (w : World) (N L : Nat) (list : Int) (xs : List R3) (A : Option Addr) (c : Nat) (ms : List R3) (Am : Option Addr) (cm : Nat) (hx : Cs w A xs) (hm : Cs w Am ms) (hN : N ≤ 100) (hL1 : 1 ≤ L) (hL2 : L ≤ 20) (hxl : xs.length ≤ 200) (hml : ms.length ≤ 200) :
    Calls Try.prog 8 #[.int .i64 N, .int .i64 L, .int .i64 list, .slice A xs.length c, .slice Am ms.length cm] w fun e w' => e = .returned (.bool true) ∧ Below w.heap.size w w' := by
  have HX := Lib.hid hx
  have HM := Lib.hid hm
  have HG := Lib.hid (fun W : World => great_calls W N L A xs.length c)
  rw [show (decide ((100 : Int) < N) || (decide ((20 : Int) < L) || decide (200 < xs.length))) = false by simp; omega] at HG
  clear hx hm
  have hqf := run_eql_func_nil (P := Try.prog) Try.underlying80
  refine (callsIn_wide (n := 10)).1 (callsIn_of_wp_marks Try.func8 rfl trivial (wpIn_wide.2 ?_))
  simp only [Try.ntmps8, List.size_toArray, List.length_cons, List.length_nil, Nat.reduceAdd, Nat.reduceSub, Array.replicate_succ, Array.replicate_zero, List.push_toArray, List.append_toArray, List.nil_append, List.cons_append]
  go_upto_region 1 with fail
  have hB0 := (((Below.refl w.heap.size w).alloc (Nat.le_refl _) (.cells #[.int .i64 N] IT)).alloc (by simp) (.cells #[.slice Am ms.length cm] 55)).alloc (by simp; omega) (.cells #[.bool false] BOOL)
  have h1 := ((Blk.new w #[.int .i64 N] IT).alloc (.cells #[.slice Am ms.length cm] 55)).alloc (.cells #[.bool false] BOOL)
  have h2 := (Blk.new (w.alloc (.cells #[.int .i64 N] IT)) #[.slice Am ms.length cm] 55).alloc (.cells #[.bool false] BOOL)
  have h3 := Blk.new ((w.alloc (.cells #[.int .i64 N] IT)).alloc (.cells #[.slice Am ms.length cm] 55)) #[.bool false] BOOL
  simp only [World.size_alloc] at h2 h3
  generalize hw0 : ((w.alloc (.cells #[.int .i64 N] IT)).alloc (.cells #[.slice Am ms.length cm] 55)).alloc (.cells #[.bool false] BOOL) = wA at hB0 h1 h2 h3 ⊢
  generalize hb0E : w.heap.size = b0 at h1 h2 h3 ⊢
  have HA := Lib.hid (And.intro hB0 (And.intro h1 (And.intro h2 (And.intro h3 hb0E))))
  clear hB0 h1 h2 h3 hw0 hb0E
  go_wp2_with fail
  refine (alive_calls wA).mono ?_
  rintro e w1 ⟨rfl, hb1⟩
  have c0 := (HA.out.2.1.below hb1).cell (o := 0) rfl
  have c1 := (HA.out.2.2.1.below hb1).cell (o := 0) rfl
  have HB1 := Lib.hid hb1
  clear hb1
  go_wp2_with fail
  refine (HG.out w1).mono ?_
  rintro e w2 ⟨rfl, rfl⟩
  have hml2 : ¬ (200 : Int) < (ms.length : Int) := by omega
  go_wp2_with fail
  refine (new_yes w1 N L (by omega) hL1 (by omega)).mono ?_
  rintro e w2 ⟨p, F, rfl, hQ, hF, hb⟩
  have H2 := Lib.hid (And.intro hQ (And.intro hF hb))
  have c0 : w2.cell? ⟨b0, 0, none⟩ = some (.int .i64 N) := ((HA.out.2.1.below HB1.out).below hb).cell (o := 0) rfl
  clear hQ hF hb HG c1
  go_upto_region 6 with fail
  have hbp := Blk.new w2 #[.pointer (some ⟨p, 0, none⟩)] 57
  have hB2 := (Below.refl w2.heap.size w2).alloc (Nat.le_refl _) (.cells #[.pointer (some ⟨p, 0, none⟩)] 57)
  have c0 : (w2.alloc (.cells #[.pointer (some ⟨p, 0, none⟩)] 57)).cell? ⟨b0, 0, none⟩ = some (.int .i64 N) := (((HA.out.2.1.below HB1.out).below H2.out.2.2).below hB2).cell (o := 0) rfl
  generalize w2.alloc (.cells #[.pointer (some ⟨p, 0, none⟩)] 57) = w3 at hbp hB2 c0 ⊢
  generalize hbpE : w2.heap.size = bp at hbp ⊢
  have H3 := Lib.hid (And.intro hbp (And.intro hB2 hbpE))
  clear hbp hB2 hbpE
  go_wp2_with fail
  refine (rnew_yes w3 N L (by omega) hL1 (by omega)).mono ?_
  rintro e w4 ⟨q, G, rfl, hR, hG, hb⟩
  have H4 := Lib.hid (And.intro hR (And.intro hG hb))
  clear hR hG hb c0
  go_upto_region 7 with fail
  have hbs := Blk.new w4 #[.pointer (some ⟨q, 0, none⟩)] 60
  have hB4 := (Below.refl w4.heap.size w4).alloc (Nat.le_refl _) (.cells #[.pointer (some ⟨q, 0, none⟩)] 60)
  have HR := Lib.hid (show RunB w (w4.alloc (.cells #[.pointer (some ⟨q, 0, none⟩)] 60)) p q b0 bp w4.heap.size N L (.slice Am ms.length cm) F G (fun _ => []) from by
    obtain ⟨a1, a2, a3, a4, a5⟩ := HA.out
    obtain ⟨hQ, hF, hb2⟩ := H2.out
    obtain ⟨hbp, hb3, e3⟩ := H3.out
    obtain ⟨hR, hG, hb4⟩ := H4.out
    have z0 := a1.size
    have z1 := HB1.out.size
    have z2 := hb2.size
    have z3 := hb3.size
    have z4 := hb4.size
    have hfl := hQ.flt
    have hgl := hR.flt
    have l1 := a4.lt
    have l5 := hbp.lt
    have bA : Below wA.heap.size wA w4 := below_then (below_then (below_then HB1.out hb2) hb3) hb4
    refine ⟨⟨((hQ.below hb3).below hb4).below hB4, hR.below hB4, fun x hx hx2 => by have := hfl x hx; have := hG x hx2; omega⟩, ⟨(a2.below bA).below hB4, (a3.below bA).below hB4, (a4.below bA).below hB4, (hbp.below hb4).below hB4, hbs⟩, ?_, ?_, below_then (below_then a1 bA) hB4⟩
    · have hn : ∀ b, b < w1.heap.size ∨ b = bp ∨ b = w4.heap.size → b ∉ F ++ G := fun b hb hx => by
        rcases List.mem_append.1 hx with e | e
        · have := hF b e
          have := hfl b e
          omega
        · have := hG b e
          have := hgl b e
          omega
      exact ⟨hn _ (by omega), hn _ (by omega), hn _ (by omega), hn _ (by omega), hn _ (by omega)⟩
    · intro x hx
      rcases List.mem_append.1 hx with e | e
      · have := hF x e
        omega
      · have := hG x e
        omega)
  generalize w4.alloc (.cells #[.pointer (some ⟨q, 0, none⟩)] 60) = w5 at HR ⊢
  generalize w4.heap.size = bs at HR ⊢
  clear hbs hB4 H2 H3 H4
  have HAb := Lib.hid (show w.heap.size ≤ b0 from by have := HA.out.2.2.2.2; omega)
  clear HA HB1
  have c11 := HR.out.bx.hp.cell (o := 0) rfl
  have c13 := HR.out.bx.hs.cell (o := 0) rfl
  go_wp2_with fail
  clear c11 c13
  go_loopw [15] (fun i wr => ∃ (k : Nat) (s : RgS) (G : List Nat), i = .int .i64 k ∧ k ≤ xs.length ∧ RunB w wr p q b0 bp bs N L (.slice Am ms.length cm) F G s) (fun i _ => xs.length - (intOf i).toNat)
  case atStart => exact ⟨0, _, G, rfl, by omega, HR.out⟩
  case round =>
    obtain ⟨k, s, G, rfl, hk, hT⟩ := hrel
    have HT := Lib.hid hT
    clear hT HR
    by_cases hlt : k < xs.length
    · obtain ⟨bc, oc, rfl, hC⟩ := HX.out k hlt
      generalize xs.getD k z3 = c0 at hC
      have hC2 := hC.below HT.out.below
      have HS := Lib.hid (show wr.drew.cell? ⟨bp, 0, none⟩ = some (.pointer (some ⟨p, 0, none⟩)) ∧ wr.drew.cell? ⟨bs, 0, none⟩ = some (.pointer (some ⟨q, 0, none⟩)) ∧ wr.drew.cell? ⟨bc, oc + k * 3, none⟩ = some (.int .i64 c0.a) ∧ wr.drew.cell? ⟨bc, oc + k * 3 + 1, none⟩ = some (.int .i64 c0.b) ∧ wr.drew.cell? ⟨bc, oc + k * 3 + 2, none⟩ = some (.int .i64 c0.c) from
        ⟨HT.out.bx.hp.cell (o := 0) rfl, HT.out.bx.hs.cell (o := 0) rfl, hC2.c0, hC2.c1, hC2.c2⟩)
      have HTo := Lib.hid (told_calls wr.drew p q F G N L s c0 (HT.out.both.below (Below.refl _ _).drew))
      have hk0 : (0 : Int) ≤ (k : Int) := by omega
      have hk1 : (k : Int) < (xs.length : Int) := by omega
      have HC := Lib.hid hC
      have HTd := Lib.hid (HT.out.on (Below.refl wr.heap.size wr).drew)
      clear hC hC2 HT
      go_wp2_with fail
      go_region_held3 (fun w' => w'.cell? ⟨bp, 0, none⟩ = some (.pointer (some ⟨p, 0, none⟩)) ∧ w'.cell? ⟨bs, 0, none⟩ = some (.pointer (some ⟨q, 0, none⟩)) ∧ w'.cell? ⟨bc, oc + k * 3, none⟩ = some (.int .i64 c0.a) ∧ w'.cell? ⟨bc, oc + k * 3 + 1, none⟩ = some (.int .i64 c0.b) ∧ w'.cell? ⟨bc, oc + k * 3 + 2, none⟩ = some (.int .i64 c0.c))
        (first | exact HS.out | exact HS2.out)
        ((go_at_call 32; (refine (Calls.mono HTo.out ?_)); rintro e w6 ⟨rfl, hTo⟩; obtain ⟨G', hR'⟩ := HTd.out.told hTo; have HR' := Lib.hid hR'; have HS2 := Lib.hid (And.intro (hR'.bx.hp.cell (o := 0) rfl) (And.intro (hR'.bx.hs.cell (o := 0) rfl) (And.intro (HC.out.below hR'.below).c0 (And.intro (HC.out.below hR'.below).c1 (HC.out.below hR'.below).c2)))); clear hTo hR'))
      go_wp2_with fail
      go_roundw
      case rel => exact ⟨k + 1, _, G', by go_num, by omega, HR'.out⟩
      case measure => simp [intOf]; omega
    · obtain rfl : k = xs.length := by omega
      have c11 : wr.cell? ⟨bp, 0, none⟩ = some (.pointer (some ⟨p, 0, none⟩)) := HT.out.bx.hp.cell (o := 0) rfl
      have HLl := Lib.hid (lsI_len HT.out.both.rng.ok list)
      go_wp2_with fail
      refine (all_calls wr p F N L s list HT.out.both.rng).mono ?_
      rintro e w6 ⟨⟨v, rfl, hO⟩, hb6⟩
      have H6 := Lib.hid (HT.out.on hb6)
      have HO6 := Lib.hid (And.intro hO (And.intro HT.out.below.size hb6.size))
      obtain ⟨A6, c6, rfl, _⟩ := hO.shape
      have c11 : w6.cell? ⟨bp, 0, none⟩ = some (.pointer (some ⟨p, 0, none⟩)) := H6.out.bx.hp.cell (o := 0) rfl
      have HFG := Lib.hid (show ∀ x ∈ F ++ G, x < wr.heap.size from fun x hx => (List.mem_append.1 hx).elim (HT.out.both.rng.flt x) (HT.out.both.ref.flt x))
      have HBz := Lib.hid (And.intro HT.out.bx.hi.lt (And.intro HT.out.bx.hm.lt (And.intro HT.out.bx.hr.lt (And.intro HT.out.bx.hp.lt HT.out.bx.hs.lt))))
      generalize wr.heap.size = base at HO6 HFG HBz
      clear hO hb6 HT hlt hk
      rw [ints_len] at HO6 ⊢
      go_wp2_with fail
      refine (clone_calls w6 p F N L s H6.out.both.rng).mono ?_
      rintro e w7 ⟨pc, rfl, FC, hC, hFC, hb7⟩
      have H7 := Lib.hid (H6.out.on hb7)
      have HC7 := Lib.hid (And.intro hC (And.intro hFC (HO6.out.1.below hb7)))
      have c11 : w7.cell? ⟨bp, 0, none⟩ = some (.pointer (some ⟨p, 0, none⟩)) := H7.out.bx.hp.cell (o := 0) rfl
      have HZ7 := Lib.hid (show base ≤ w6.heap.size ∧ w6.heap.size ≤ w7.heap.size ∧ (∀ g, (Value.slice A6 (lsI s L list).length c6).ownBlock = some g → base ≤ g ∧ g < w6.heap.size) from ⟨HO6.out.2.2, hb7.size, HO6.out.1.base_le⟩)
      clear hC hFC hb7 H6
      go_wp2_with fail
      refine (each_calls w7 p list).mono ?_
      rintro e w8 ⟨rfl, hw8⟩
      have hB8 : Below w7.heap.size w7 w8 := by rw [hw8]; exact ((Below.refl _ _).alloc (Nat.le_refl _) _).alloc (by simp) _
      have hq0 : Blk w8 w7.heap.size #[.pointer (some ⟨p, 0, none⟩)] 57 := by rw [hw8]; exact (Blk.new _ _ _).alloc _
      have hq1 : Blk w8 (w7.heap.size + 1) #[.int .i64 list] IT := by
        rw [hw8]
        have := Blk.new (w7.alloc (.cells #[.pointer (some ⟨p, 0, none⟩)] 57)) #[.int .i64 list] IT
        rwa [World.size_alloc] at this
      have H8 := Lib.hid (And.intro (H7.out.on hB8) (And.intro (HC7.out.1.below hB8) (And.intro (HC7.out.2.2.below hB8) (And.intro hq0 (And.intro hq1 hB8.size)))))
      clear hw8 hB8 hq0 hq1 H7 c11
      go_upto_region 19 with fail
      have hB9 := ((Below.refl w8.heap.size w8).alloc (Nat.le_refl _) (.cells #[] IT)).alloc (by simp) (.cells #[.slice (some ⟨w8.heap.size, 0, none⟩) 0 0] ITS)
      have hz9 := (Blk.new w8 #[] IT).alloc (.cells #[.slice (some ⟨w8.heap.size, 0, none⟩) 0 0] ITS)
      have hl9 := Blk.new (w8.alloc (.cells #[] IT)) #[.slice (some ⟨w8.heap.size, 0, none⟩) 0 0] ITS
      rw [World.size_alloc] at hl9
      generalize (w8.alloc (.cells #[] IT)).alloc (.cells #[.slice (some ⟨w8.heap.size, 0, none⟩) 0 0] ITS) = w9 at hB9 hz9 hl9 ⊢
      have H9 := Lib.hid (show RunB w w9 p q b0 bp bs N L (.slice Am ms.length cm) F G s ∧ RngAt w9 pc FC N L s ∧ Aid.Own w9 base IT .i64 (.slice A6 (lsI s L list).length c6) (ints (lsI s L list)) ∧ Blk w9 w7.heap.size #[.pointer (some ⟨p, 0, none⟩)] 57 ∧ Blk w9 (w7.heap.size + 1) #[.int .i64 list] IT ∧ w7.heap.size ≤ w8.heap.size ∧ (∀ x ∈ FC, w6.heap.size ≤ x ∧ x < w8.heap.size) from
        ⟨H8.out.1.on hB9, H8.out.2.1.below hB9, H8.out.2.2.1.below hB9, H8.out.2.2.2.1.below hB9, H8.out.2.2.2.2.1.below hB9, H8.out.2.2.2.2.2, fun x hx => ⟨HC7.out.2.1 x hx, H8.out.2.1.flt x hx⟩⟩)
      generalize w8.heap.size = bz at hz9 hl9 H9 ⊢
      generalize w7.heap.size = bq at HZ7 H9 ⊢
      have HZ := Lib.hid (And.intro hz9 hl9)
      clear hB9 hz9 hl9 H8 HC7
      obtain ⟨M0, hM0⟩ : ∃ M0, M0 = (bz + 1) :: bz :: (F ++ G) := ⟨_, rfl⟩
      have hfl9 := H9.out.1.both.rng.flt
      have HI0 := Lib.hid (show ∃ G0, (∀ x ∈ G0, x ∈ G) ∧ InK M0 w9 w9 p q (bz + 1) F N L [] s G0 (.slice (some ⟨bz, 0, none⟩) 0 0) from by
        obtain ⟨z1, z2⟩ := HZ.out
        obtain ⟨o1, o2, o3⟩ := HZ7.out
        have o4 := H9.out.2.2.2.2.2.1
        have hin : ∀ x ∈ F ++ G, x ∈ M0 := fun x hx => by rw [hM0]; exact List.mem_cons_of_mem _ (List.mem_cons_of_mem _ hx)
        have hlt : ∀ x ∈ F ++ G, x < bz := fun x hx => by have := HFG.out x hx; omega
        refine InK.exact (Kept.refl _ _) H9.out.1.both (fun x hx => .inl (hin x (List.mem_append_right _ hx))) z2 (.inr ⟨bz, 0, rfl, ⟨⟨#[], z1, rfl, rfl⟩, Nat.le_refl _, Nat.zero_le _⟩⟩) (fun g hg => ?_) (fun x hx => hin x (List.mem_append_left _ hx)) (by rw [hM0]; simp) (fun hx => ?_) (fun hx => ?_) hfl9
        · have : bz = g := Option.some.inj (show some bz = some g from hg)
          subst this
          exact ⟨.inl (by rw [hM0]; simp), by omega, fun hx => by have := hlt bz (List.mem_append_left _ hx); omega, fun hx => by have := hlt bz (List.mem_append_right _ hx); omega⟩
        · have := hlt _ (List.mem_append_left _ hx); omega
        · have := hlt _ (List.mem_append_right _ hx); omega)
      obtain ⟨G0, hG0, hI0⟩ := HI0.out
      have HI0 := Lib.hid hI0
      have HSt := Lib.hid (each1_calls 9 w9 p F N L s list bq (bz + 1) q ((bz + 1) :: q :: F) H9.out.1.both.rng H9.out.2.2.2.1 H9.out.2.2.2.2.1 (fun b hb => by
          rcases List.mem_cons.1 hb with e | hb
          · rw [e]; exact HZ.out.2.lt
          · rcases List.mem_cons.1 hb with e | hb
            · rw [e]; exact hI0.both.ref.flt q (LAt.q_in hI0.both.ref)
            · exact hfl9 b hb) HZ.out.2.lt (hI0.both.ref.flt q (LAt.q_in hI0.both.ref)) (LAt.well hI0.both.ref) (fun g hg => by
          rcases hg with hg | hg
          · rw [own_box HZ.out.2] at hg
            have : bz = g := Option.some.inj (show some bz = some g from hg)
            subst this
            exact HZ.out.1.lt
          · exact hI0.both.ref.flt g (LAt.ownq_in hI0.both.ref hg).1) (by decide))
      have HBX := Lib.hid (fun (W : World) (k : Kept M0 w9 W) => (show Bx W p q b0 bp bs N (.slice Am ms.length cm) ∧ Below w.heap.size w W from by
        obtain ⟨l1, l2, l3, l4, l5⟩ := HBz.out
        obtain ⟨o1, o2, o3⟩ := HZ7.out
        have o4 := H9.out.2.2.2.2.2.1
        have o5 := HO6.out.2.1
        obtain ⟨n1, n2, n3, n4, n5⟩ := H9.out.1.out
        have hn : ∀ b, b < base → b ∉ F ++ G → b ∉ M0 := fun b hb hnb hx => by
          rw [hM0] at hx
          rcases List.mem_cons.1 hx with e | hx
          · omega
          · rcases List.mem_cons.1 hx with e | hx
            · omega
            · exact hnb hx
        refine ⟨H9.out.1.bx.kept k ⟨hn _ l1 n1, hn _ l2 n2, hn _ l3 n3, hn _ l4 n4, hn _ l5 n5⟩, below_kept H9.out.1.below k H9.out.1.below.size fun x hx => ?_⟩
        rw [hM0] at hx
        rcases List.mem_cons.1 hx with e | hx
        · omega
        · rcases List.mem_cons.1 hx with e | hx
          · omega
          · exact H9.out.1.base x hx))
      have HM0 := Lib.hid hM0
      clear hI0 hG0 hfl9 hM0
      go_wp2_with fail
      refine wpIn_wide (n := 10) |>.1 ?_
      have hbz := HZ.out.2.lt
      have hqz := HI0.out.both.ref.flt q (LAt.q_in HI0.out.both.ref)
      refine range_upd0 (gf := 78) (lb := #[.pointer (some ⟨bq, 0, none⟩), .pointer (some ⟨bq + 1, 0, none⟩)]) rfl (by decide) rfl trivial (enters_of Try.func78 (by kernel_rfl) rfl) HSt.out KpO.trans (fun W l o o' h1 h2 h3 _ => KpO.put h2 h3 (by omega) (by omega)) (Below.refl _ _) (fun _ => rfl)
        (fun pre W => ∃ s G hd, InK M0 w9 W p q (bz + 1) F N L pre s G hd) (fun _ _ _ => False)
        (fun pre A B row ⟨s, G, hd, h⟩ hg hr => ⟨s, G, hd, h.grown hg hr⟩) (fun _ _ _ _ _ h _ _ => h) ⟨_, _, _, HI0.out⟩ frE (frE_eq _) updE ?assign ?body ?done ?stop (KpO.refl _ _ _)
      case assign =>
        intro l x W K hK
        unfold updE frE at hK
        unfold frE
        gi_wp2
        exact hK
      case body =>
        rintro l pre x W ⟨s1, G1, hd, hI⟩ hlt
        have HI := Lib.hid hI
        clear hI hbz hqz
        unfold updE frE
        obtain ⟨AL, cL, rfl⟩ := HI.out.list.shape
        have hpl : pre.length ≤ 1000 := by have := HLl.out; omega
        obtain ⟨g4, c4, w4, e4, hR4, hold, hown, hz4, y1, y2, y3⟩ := append_rec_run (P := Try.prog) (W := W) ITS ITS IT _ 8 Try.underlying68 info_int rfl (by decide) enc1_len enc1_one HI.out.list x (by omega) (by decide)
        have hw4l : w4.heap[bz + 1]? = W.heap[bz + 1]? := hold _ HI.out.box.lt fun e => (HI.out.own _ e).2.1 rfl
        have hl4 : Blk w4 (bz + 1) #[.slice AL pre.length cL] ITS := hw4l.trans HI.out.box
        have cl : W.cell? ⟨bz + 1, 0, none⟩ = some (.slice AL pre.length cL) := HI.out.box.cell (o := 0) rfl
        have cl4 : w4.cell? ⟨bz + 1, 0, none⟩ = some (.slice AL pre.length cL) := hl4.cell (o := 0) rfl
        have fl4 := hl4.free 0
        have HSp := Lib.hid (HI.out.step x hR4 hold hown hz4 y1 y2 y3)
        have HLt := Lib.hid hlt
        unfold enc1 at e4
        clear hR4 hold hown hz4 y1 y2 y3 hw4l hl4 hlt
        gi_upto_region 22 with fail
        generalize w4.setCell ⟨bz + 1, 0, none⟩ (.slice (some ⟨g4, 0, none⟩) (pre.length + 1) c4) = W1 at HSp ⊢
        clear cl cl4 fl4 e4
        have HBXw := Lib.hid (HBX.out W1 HSp.out.1.kept)
        have c19 : W1.cell? ⟨bz + 1, 0, none⟩ = some (.slice (some ⟨g4, 0, none⟩) (pre.length + 1) c4) := HSp.out.1.box.cell (o := 0) rfl
        have c9 : W1.cell? ⟨b0 + 1, 0, none⟩ = some (.slice Am ms.length cm) := HBXw.out.1.hm.cell (o := 0) rfl
        have c5 : W1.cell? ⟨b0, 0, none⟩ = some (.int .i64 N) := HBXw.out.1.hi.cell (o := 0) rfl
        have c11 : W1.cell? ⟨bp, 0, none⟩ = some (.pointer (some ⟨p, 0, none⟩)) := HBXw.out.1.hp.cell (o := 0) rfl
        have c13 : W1.cell? ⟨bs, 0, none⟩ = some (.pointer (some ⟨q, 0, none⟩)) := HBXw.out.1.hs.cell (o := 0) rfl
        have hfin : ¬ (N : Int) < ((pre.length + 1 : Nat) : Int) := by
          have h1 := HLt.out
          have h2 := HLl.out
          omega
        by_cases hmm : pre.length < ms.length
        · have hmi : ((pre.length + 1 : Nat) : Int) ≤ (ms.length : Int) := by omega
          obtain ⟨bm, om, rfl, hC⟩ := HM.out pre.length hmm
          have hC1 := hC.below HBXw.out.2
          generalize ms.getD pre.length z3 = c0 at hC hC1
          have k0 := hC1.c0
          have k1 := hC1.c1
          have k2 := hC1.c2
          have hp0 : (0 : Int) ≤ (pre.length : Int) := by omega
          have hp1 : (pre.length : Int) < (ms.length : Int) := by omega
          gi_upto_region 23 with fail
          have hwr : IntKind.i64.wrap ((pre.length : Nat) : Int) = ((pre.length : Nat) : Int) := nat_wrap0 (by omega)
          have HTo := Lib.hid (told_calls W1.drew p q F G1 N L s1 c0 (HSp.out.1.both.below (Below.refl _ _).drew))
          have HSd := Lib.hid (HSp.out.1.drew)
          have HCm := Lib.hid hC
          clear hC hC1
          refine round_held_drew (S := fun w' => w'.cell? ⟨bp, 0, none⟩ = some (.pointer (some ⟨p, 0, none⟩)) ∧ w'.cell? ⟨bs, 0, none⟩ = some (.pointer (some ⟨q, 0, none⟩)) ∧ w'.cell? ⟨b0 + 1, 0, none⟩ = some (.slice (some ⟨bm, om, none⟩) ms.length cm) ∧ w'.cell? ⟨bz + 1, 0, none⟩ = some (.slice (some ⟨g4, 0, none⟩) (pre.length + 1) c4) ∧ w'.cell? ⟨bm, om + pre.length * 3, none⟩ = some (.int .i64 c0.a) ∧ w'.cell? ⟨bm, om + pre.length * 3 + 1, none⟩ = some (.int .i64 c0.b) ∧ w'.cell? ⟨bm, om + pre.length * 3 + 2, none⟩ = some (.int .i64 c0.c)) (by kernel_rfl) (by kernel_rfl) (fun ⟨_, _, h⟩ => h) ⟨c11, c13, c9, c19, k0, k1, k2⟩ (fun hHeld => ?_)
          refine wpAnyH_take (i := 0) (v := ?_) rfl (by kernel_rfl) (by kernel_rfl) (by kernel_rfl) (fun _ _ _ h => h) (Or.inl ⟨by rfl, ?_⟩) (by assumption) ?_
          rotate_left
          · (intro w hSw; (try dsimp only at hSw); go_simp <;> with_reducible rfl)
          (try simp only [Act.put, List.setIfInBounds_toArray, List.set_cons_zero, List.set_cons_succ])
          refine wpAnyH_take (i := 1) (v := ?_) rfl (by kernel_rfl) (by kernel_rfl) (by kernel_rfl) (fun _ _ _ h => h) (Or.inl ⟨by rfl, ?_⟩) (by assumption) ?_
          rotate_left
          · (intro w hSw; (try dsimp only at hSw); go_simp <;> with_reducible rfl)
          (try simp only [Act.put, List.setIfInBounds_toArray, List.set_cons_zero, List.set_cons_succ])
          refine wpAnyH_take (i := 2) (v := ?_) rfl (by kernel_rfl) (by kernel_rfl) (by kernel_rfl) (fun _ _ _ h => h) (Or.inl ⟨by rfl, ?_⟩) (by assumption) ?_
          rotate_left
          · (intro w hSw; (try dsimp only at hSw); go_simp <;> with_reducible rfl)
          (try simp only [Act.put, List.setIfInBounds_toArray, List.set_cons_zero, List.set_cons_succ])
          refine wpAnyH_take (i := 3) (v := ?_) rfl (by kernel_rfl) (by kernel_rfl) (by kernel_rfl) (fun _ _ _ h => h) (Or.inl ⟨by rfl, ?_⟩) (by assumption) ?_
          rotate_left
          · (intro w hSw; (try dsimp only at hSw); go_simp <;> with_reducible rfl)
          (try simp only [Act.put, List.setIfInBounds_toArray, List.set_cons_zero, List.set_cons_succ])
          refine wpAnyH_take (i := 4) (v := ?_) rfl (by kernel_rfl) (by kernel_rfl) (by kernel_rfl) (fun _ _ _ h => h) (Or.inl ⟨by rfl, ?_⟩) (by assumption) ?_
          rotate_left
          · (intro w hSw; (try dsimp only at hSw); go_simp <;> with_reducible rfl)
          (try simp only [Act.put, List.setIfInBounds_toArray, List.set_cons_zero, List.set_cons_succ])
          refine wpAnyH_take (i := 5) (v := ?_) rfl (by kernel_rfl) (by kernel_rfl) (by kernel_rfl) (fun _ _ _ h => h) (Or.inl ⟨by rfl, ?_⟩) (by assumption) ?_
          rotate_left
          · (intro w hSw; (try dsimp only at hSw); go_simp <;> with_reducible rfl)
          (try simp only [Act.put, List.setIfInBounds_toArray, List.set_cons_zero, List.set_cons_succ])
          refine wpAnyH_take (i := 6) (v := ?_) rfl (by kernel_rfl) (by kernel_rfl) (by kernel_rfl) (fun _ _ _ h => h) (Or.inl ⟨by rfl, ?_⟩) (by assumption) ?_
          rotate_left
          · (intro w hSw; (try dsimp only at hSw); go_simp <;> with_reducible rfl)
          (try simp only [Act.put, List.setIfInBounds_toArray, List.set_cons_zero, List.set_cons_succ])
          refine wpAnyH_take (i := 7) (v := ?_) rfl (by kernel_rfl) (by kernel_rfl) (by kernel_rfl) (fun _ _ _ h => h) (Or.inl ⟨by rfl, ?_⟩) (by assumption) ?_
          rotate_left
          · (intro w hSw; (try dsimp only at hSw); go_simp <;> with_reducible rfl)
          (try simp only [Act.put, List.setIfInBounds_toArray, List.set_cons_zero, List.set_cons_succ])
          refine wpAnyH_ready (rs := [8]) (by kernel_rfl) (by simp) ?_
          refine AllReadyH.cons rfl (fun K hK => ?_) ?_
          · go_simp
            (go_at_call 32; (refine (Calls.mono HTo.out ?_)); rintro e w6 ⟨rfl, hTo⟩; obtain ⟨⟨s2, G2, hI2⟩, hk2, hp2⟩ := HSd.out.told hTo; have HI2 := Lib.hid (And.intro hI2 (And.intro hk2 hp2)); have HBX2 := Lib.hid (HBX.out w6 hI2.kept); clear hTo hI2 hk2 hp2)
            refine hK.out _ _ ?_ (fun hHeld => ?_)
            · exact ⟨HBX2.out.1.hp.cell (o := 0) rfl, HBX2.out.1.hs.cell (o := 0) rfl, HBX2.out.1.hm.cell (o := 0) rfl, HI2.out.1.box.cell (o := 0) rfl, (HCm.out.below HBX2.out.2).c0, (HCm.out.below HBX2.out.2).c1, (HCm.out.below HBX2.out.2).c2⟩
            clear hK K
            (try simp only [Act.put, List.setIfInBounds_toArray, List.set_cons_zero, List.set_cons_succ])
            refine wpAnyH_done (by kernel_rfl) ?_ _
            have c19 : w6.cell? ⟨bz + 1, 0, none⟩ = some (.slice (some ⟨g4, 0, none⟩) (pre.length + 1) c4) := HI2.out.1.box.cell (o := 0) rfl
            have c5 : w6.cell? ⟨b0, 0, none⟩ = some (.int .i64 N) := HBX2.out.1.hi.cell (o := 0) rfl
            clear hHeld
            gi_wp2
            exact ⟨HSp.out.2.1.trans ⟨HI2.out.2.1.size, HI2.out.2.1.same⟩, HSp.out.2.2.trans HI2.out.2.2.undrew, _, _, _, HI2.out.1⟩
          exact AllReadyH.nil
        · have hmi : ¬ ((pre.length + 1 : Nat) : Int) ≤ (ms.length : Int) := by omega
          gi_wp2
          exact ⟨HSp.out.2.1, HSp.out.2.2, _, _, _, HSp.out.1⟩
      case done =>
        rintro D ys W hD rfl ⟨s1, G1, hd, hI⟩ hDf
        have HF := Lib.hid (show FinK w W p q b0 bp bs N L (.slice Am ms.length cm) pc FC s base (.slice A6 (lsI s L list).length c6) (bz + 1) hd (lsI s L list) D from by
          obtain ⟨h1, h2⟩ := HBX.out W hI.kept
          obtain ⟨o1, o2, o3⟩ := HZ7.out
          have o4 := H9.out.2.2.2.2.2.1
          have hM := HM0.out
          refine ⟨h1, H9.out.2.1.kept hI.kept fun x hx hx2 => ?_, own_keptg H9.out.2.2.1 hI.kept fun g hg hx2 => ?_, hI.box, hI.list, hDf, h2⟩
          · have h3 := H9.out.2.2.2.2.2.2 x hx
            rw [hM] at hx2
            rcases List.mem_cons.1 hx2 with e | hx2
            · omega
            · rcases List.mem_cons.1 hx2 with e | hx2
              · omega
              · have := HFG.out x hx2
                omega
          · have h3 := o3 g hg
            rw [hM] at hx2
            rcases List.mem_cons.1 hx2 with e | hx2
            · omega
            · rcases List.mem_cons.1 hx2 with e | hx2
              · omega
              · have := HFG.out g hx2
                omega)
        have HDz := Lib.hid (show w.heap.size ≤ D from Nat.le_trans (HBX.out w9 (Kept.refl _ _)).2.size hD)
        have HOk := Lib.hid HF.out.c.ok
        clear hI hD hDf HSt HI0 HBX H9 HZ HZ7 HO6 HM HX hbz hqz c11 HM0 HFG HBz
        go_wp2_with fail
        go_loopw [21] (fun i wr => ∃ j : Nat, i = .int .i64 j ∧ j ≤ L ∧ FinK w wr p q b0 bp bs N L (.slice Am ms.length cm) pc FC s base (.slice A6 (lsI s L list).length c6) (bz + 1) hd (lsI s L list) D) (fun i _ => L - (intOf i).toNat)
        case atStart => exact ⟨0, rfl, by omega, HF.out⟩
        case round =>
          obtain ⟨j, rfl, hj, hFr⟩ := hrel
          clear HF
          have HF := Lib.hid hFr
          clear hFr
          by_cases hjl : j < L
          · have HAll := Lib.hid (all_calls wr pc FC N L s (j : Int) HF.out.c)
            rw [lsI_nat s hjl] at HAll
            have hsl := HOk.out.len j
            go_wp2_with fail
            refine HAll.out.mono ?_
            rintro e w3 ⟨⟨v, rfl, hO⟩, hb3⟩
            obtain ⟨A3, c3, rfl, hI3⟩ := hO.shape
            have HI3 := Lib.hid hI3
            have HF3 := Lib.hid (HF.out.on hb3)
            rw [ints_len]
            clear hO hI3 hb3 HAll HF
            go_wp2_with fail
            go_loopw [120] (fun i wr => ∃ k : Nat, i = .int .i64 k ∧ k ≤ (s j).length ∧ w3 = wr) (fun i _ => (s j).length - (intOf i).toNat)
            case atStart => exact ⟨0, rfl, by omega, rfl⟩
            case round =>
              obtain ⟨k, rfl, hk, rfl⟩ := hrel
              by_cases hkl : k < (s j).length
              · obtain ⟨y, hy⟩ : ∃ y, (s j)[k]? = some y := ⟨_, List.getElem?_eq_getElem hkl⟩
                obtain ⟨b, o, rfl, hbl, hc0⟩ := HI3.out k (by rw [ints_len]; exact hkl)
                rw [ints_getD hy] at hc0
                have HIn := Lib.hid (in_calls w3 pc FC N L s (y : Int) HF3.out.c)
                rw [(at_some HOk.out (drop_at hy)).1] at HIn
                have hk0 : (0 : Int) ≤ (k : Int) := by omega
                have hk1 : (k : Int) < ((s j).length : Int) := by omega
                clear hy hbl
                go_wp2_with fail
                refine HIn.out.mono ?_
                rintro e w4 ⟨rfl, rfl⟩
                go_wp2_with fail
                go_roundw
                case rel => exact ⟨k + 1, by go_num, hkl, trivial⟩
                case measure => simp [intOf]; omega
              · obtain rfl : k = (s j).length := by omega
                go_wp2_with fail
                go_roundw
                case rel => exact ⟨j + 1, by go_num, hjl, HF3.out⟩
                case measure => simp [intOf]; omega
          · obtain rfl : j = L := by omega
            have c19 : wr.cell? ⟨bz + 1, 0, none⟩ = some hd := HF.out.box.cell (o := 0) rfl
            obtain ⟨Ag, cg, rfl⟩ := HF.out.got.shape
            have HI1 := Lib.hid (hdr_ints HF.out.got)
            obtain ⟨A', c', hv, hIb⟩ := HF.out.bef.shape
            rw [ints_len] at hv
            injection hv with hv1 _ hv3
            subst hv1
            have HI2 := Lib.hid hIb
            have hls : (ints (lsI s j list)).length ≤ maxLen := by rw [ints_len]; have := HLl.out; unfold maxLen; omega
            have HS1 := Lib.hid (same_ints (ints (lsI s j list)) (ints (lsI s j list)) Ag A6 cg c6 wr HI1.out hIb hls)
            have HS2 := Lib.hid (fun (W : World) (B : Option Addr) (d : Nat) (hb : Below wr.heap.size wr W) (hy : Ints W .i64 B (ints (lsI s j list))) => same_ints (ints (lsI s j list)) (ints (lsI s j list)) B A6 d c6 W hy (hIb.below hb) hls)
            rw [ints_len, show (ints (lsI s j list) == ints (lsI s j list)) = true by simp] at HS1 HS2
            have HAll := Lib.hid (fun nq => all_calls (wr.drewN nq) pc FC N j s list (HF.out.c.below (below_drewN (Below.refl _ _) nq)))
            clear hIb hls hv3 hjl hj
            go_wp2_with (first
              | (go_at_call 39; (with_reducible refine (Calls.mono HS1.out ?_)); rintro e w8 ⟨rfl, nq, rfl⟩; have HA1 := Lib.hid (HAll.out nq))
              | (go_at_call 40; (with_reducible refine (Calls.mono HA1.out ?_)); rintro e w7 ⟨⟨v, rfl, hO⟩, hb7⟩; obtain ⟨B, d, rfl, hI7⟩ := hO.shape; rw [ints_len]; have hb8 := (below_drewN (Below.refl wr.heap.size wr) nq).trans hb7; have HS7 := Lib.hid (HS2.out w7 B d hb8 hI7); have HF7 := Lib.hid (HF.out.on hb8); have c10 := HF7.out.bx.hr.cell (o := 0) rfl; have f10 := HF7.out.bx.hr.free 0; clear hO hb7 hI7 hb8)
              | (go_at_call 39; (with_reducible refine (Calls.mono HS7.out ?_)); rintro e w9 ⟨rfl, nq2, rfl⟩; have HF8 := Lib.hid (HF7.out.on (below_drewN (Below.refl w7.heap.size w7) nq2)))
              | fail)
            obtain ⟨o1, o2, o3⟩ := HF8.out.out HDz.out HAb.out
            refine ⟨by simp, .inl ⟨_, _, rfl, run_takeDeferred o1, ?_⟩⟩
            exact ⟨_, results_cell1 rfl _ _ _ _ rfl o2, rfl, o3⟩
      case stop =>
        rintro D c pre W _ _ h _
        exact h.elim
end Go.Proofs.Ytldlogmjkbhomaa.Rng
