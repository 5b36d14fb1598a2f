/- The walk of RemoteCalls: it returns true. -/
import Derived.Test.YtchnhmcedmicgaaRemX
set_option linter.unusedSimpArgs false
namespace Go.Proofs.Ytchnhmcedmicgaa.Rem
open Go.RowKit Go.Proofs.Ytchnhmcedmicgaa.Aid
attribute [local go_sem] Oper.semAt_some
set_option maxHeartbeats 32000000 in
set_option maxRecDepth 8000 in
attribute [-go_sem] Builtin.append_ in
theorem calls_yes (w : World) (n : Nat) (A : Option Addr) (ca : Nat) (xs : List Q4) (ask other at_ : Int) (hx : QuadsW w A xs) (h1 : 1 ≤ n) (h2 : n ≤ 64) (hl : ¬ 200 < (xs.length : Int)) (hka : okI .i64 ask) (hko : okI .i64 other) (hkt : okI .i64 at_) :
    Calls Try.prog 11 #[.int .i64 n, .slice A xs.length ca, .int .i64 ask, .int .i64 other, .int .i64 at_] w fun e w' => e = .returned (.bool true) ∧ Below w.heap.size w w' := by
  have HX := Lib.hid hx
  have HN := Lib.hid (And.intro h1 h2)
  have HKK := Lib.hid (And.intro hka (And.intro hko hkt))
  clear hx hka hko hkt
  refine (callsIn_wide (n := 10)).1 (callsIn_of_wp_marks Try.func11 rfl trivial (wpIn_wide.2 ?_))
  simp only [Try.ntmps11, List.size_toArray, List.length_cons, List.length_nil, Nat.reduceAdd, Nat.reduceSub, Array.replicate_succ, Array.replicate_zero, List.push_toArray, List.append_toArray, List.nil_append, List.cons_append]
  go_upto_region 1 with fail
  have hB0 := ((Below.refl w.heap.size w).alloc (Nat.le_refl _) (.cells #[.int .i64 n] INT)).alloc (by simp) (.cells #[.bool false] BOOL)
  have hbw := (Blk.new w #[.int .i64 n] INT).alloc (.cells #[.bool false] BOOL)
  have hbr := Blk.new (w.alloc (.cells #[.int .i64 n] INT)) #[.bool false] BOOL
  rw [World.size_alloc] at hbr
  have HX0 := Lib.hid (HX.out.below hB0)
  generalize hw0 : (w.alloc (.cells #[.int .i64 n] INT)).alloc (.cells #[.bool false] BOOL) = wA at hB0 hbw hbr HX0 ⊢
  generalize hbwE : w.heap.size = bw at hbw hbr ⊢
  have HA := Lib.hid (And.intro hB0 (And.intro hbw (And.intro hbr hbwE)))
  have cw := hbw.cell (o := 0) rfl
  clear hB0 hbw hbr hw0 hbwE
  go_wp2_with fail
  refine (alive_calls wA).mono ?_
  rintro e w1 ⟨rfl, hb1⟩
  have cw := (HA.out.2.1.below hb1).cell (o := 0) rfl
  have HB1 := Lib.hid hb1
  clear hb1
  go_wp2_with fail
  refine (begin_yes w1 n h1 h2).mono ?_
  rintro e w2 ⟨p, F, rp, rfl, hH, hBk, hrp⟩
  have HD0 := Lib.hid (show DQ wA w2 p F n 0 (q0 n) rp [rp] [] 0 from by
    have hs := HB1.out.size
    refine ⟨⟨hH.q, ⟨⟨_, hBk, .inl ⟨rfl, rfl⟩, fun g hg => by cases hg⟩, by simp, fun x hx => by simp at hx; subst hx; exact hBk.lt, by simp⟩, fun x hx => (hH.out x hx).1⟩, fun x hx => ?_, below_then HB1.out hH.below, Nat.le_refl _, Nat.le_refl _⟩
    rcases List.mem_append.1 hx with hx | hx
    · have := hH.base x hx; omega
    · simp at hx; subst hx; omega)
  clear hH hBk hrp HB1 cw
  go_wp2_with fail
  go_loopw [14] (fun i wr => ∃ (j : Nat) (F : List Nat) (m : Nat) (s : QRun) (G : List Nat) (log : List RRow), j ≤ xs.length ∧ i = .int .i64 j ∧ DQ wA wr p F n m s rp G log j ∧ LikeQ n s log) (fun i _ => xs.length - (intOf i).toNat)
  case atStart => exact ⟨0, F, 0, q0 n, [rp], [], by omega, rfl, HD0.out, like0 n⟩
  case round =>
    obtain ⟨j, F, m, s, G, log, hj, rfl, hr, hlk⟩ := hrel
    have HR := Lib.hid (And.intro hr hlk)
    clear hr hlk HD0
    by_cases hlt : j < xs.length
    · obtain ⟨b, o, rfl, ⟨hlb, x0, x1, x2, x3⟩, hok⟩ := HX0.out.below HR.out.1.below j hlt
      have hj0 : (0 : Int) ≤ (j : Int) := by omega
      have hj1 : (j : Int) < (xs.length : Int) := by omega
      generalize xs.getD j q40 = c at x0 x1 x2 x3 hok
      have HDo := Lib.hid (do_calls wr p F n m s rp G log c hok HR.out.1.both (by have := HR.out.1.few; omega) (by have := HR.out.1.len; omega))
      have HLn := Lib.hid (doL_len n log c)
      have HLk := Lib.hid (HR.out.2.do_ HR.out.1.both.q.ok c).2
      rw [(HR.out.2.do_ HR.out.1.both.q.ok c).1] at HDo
      clear hok hlb
      go_wp2_with fail
      refine HDo.out.mono ?_
      rintro e w4 ⟨rfl, hd⟩
      obtain ⟨F', G', m', hnx⟩ := HR.out.1.next hd HLn.out
      have HNx := Lib.hid hnx
      have hc1 := total_calls w4 p F' n m' _ hnx.both.q
      have hc2 := rtotal_calls w4 rp G' n _ hnx.both.r
      rw [← HLk.out.tot] at hc2
      have HC1 := Lib.hid hc1
      have HC2 := Lib.hid hc2
      generalize hti : ((total (doS n s c) : Nat) : Int) = ti at HC1 HC2
      have hne : (ti != ti) = false := by simp
      clear hd hnx hc1 hc2 hti HDo
      go_wp2_with fail
      refine HC1.out.mono ?_
      rintro e w5 ⟨rfl, rfl⟩
      go_wp2_with fail
      refine HC2.out.mono ?_
      rintro e w5 ⟨rfl, rfl⟩
      go_wp2_with fail
      go_roundw
      case rel => exact ⟨j + 1, F', m', _, G', _, by omega, by go_num, HNx.out, HLk.out⟩
      case measure => simp [intOf]; omega
    · obtain rfl : j = xs.length := by omega
      have HPl := Lib.hid (place_calls wr rp G n log at_ HR.out.1.both.r)
      have hqok := HR.out.1.both.q.ok
      have HPN := Lib.hid (fun (h : ¬ 0 ≤ placeV log at_) => HR.out.2.place_none hqok h)
      have HPS := Lib.hid (fun (h : 0 ≤ placeV log at_) => HR.out.2.place_some hqok h)
      clear hqok
      go_upto_region 16 with fail
      let Qh : Exit → Act → World → Prop := bodyPost Try.prog Try.f11 fun _ _ => True
      obtain ⟨bb, hbb⟩ : ∃ bb, bb = decide (0 ≤ placeV log at_) := ⟨_, rfl⟩
      have Hbb := Lib.hid hbb
      clear hbb
      go_cut [15, 65] (fun s15 s65 wc => s15 = .int .i64 (-1) ∧ s65 = .bool bb ∧ wr = wc)
      case first =>
        go_wp2_with fail
        refine HPl.out.mono ?_
        rintro e w5 ⟨rfl, rfl⟩
        go_wp2_with fail
        go_meet
        exact ⟨rfl, by rw [Hbb.out], rfl⟩
      case rest =>
      obtain ⟨rfl, rfl, rfl⟩ := hcut
      rename_i hkk
      refine hkk _ _ ?_
      clear hkk
      go_cut [15] (fun s15 wc => s15 = .int .i64 (whrV s at_) ∧ (wc = wr ∨ wc = wr.drew))
      case first =>
        by_cases hp0 : 0 ≤ placeV log at_
        · obtain rfl : bb = true := by rw [Hbb.out, decide_eq_true hp0]
          obtain ⟨k, x, hk, hx, hv⟩ := HPS.out hp0
          have Hv := Lib.hid hv
          obtain ⟨A', c', c1, hrec⟩ := HR.out.1.both.r.open_
          obtain ⟨g, rfl, _, hRe⟩ := hrec k x hx
          obtain ⟨r0, _⟩ := rec5 hRe hx
          have hkl := (List.getElem?_eq_some_iff.1 hx).1
          have hk0 : (0 : Int) ≤ (k : Int) := by omega
          have hk1 : (k : Int) < (log.length : Int) := by omega
          have HPd := Lib.hid (place_calls wr.drew rp G n log at_ HR.out.1.both.r.drew)
          rw [hk] at HPd
          clear hp0 hk hx hv hrec hRe hkl HPl HPN HPS
          go_wp2_with fail
          go_region_held3 (fun w' => w'.cell? ⟨rp, 1, none⟩ = some (.slice (some ⟨g, 0, none⟩) log.length c') ∧ w'.cell? ⟨g, k * 5, none⟩ = some (.int .i64 x.to_))
            (first | exact ⟨c1, r0⟩)
            ((first
              | (go_at_call 62; (with_reducible refine (Calls.mono HPd.out ?_)); rintro e w8 ⟨rfl, rfl⟩)))
          go_wp2_with fail
          go_meet
          exact ⟨by rw [Hv.out], .inr rfl⟩
        · obtain rfl : bb = false := by rw [Hbb.out, decide_eq_false hp0]
          have Hv := Lib.hid (HPN.out hp0)
          clear hp0
          go_wp2_with fail
          go_meet
          exact ⟨by rw [Hv.out], .inl rfl⟩
      case rest =>
      obtain ⟨rfl, hwc⟩ := hcut
      have HR2 := Lib.hid (show DQ wA wc p F n m s rp G log xs.length from by
        rcases hwc with rfl | rfl
        · exact HR.out.1
        · exact ⟨HR.out.1.both.below (Below.refl _ _).drew, HR.out.1.base, HR.out.1.below.drew, HR.out.1.few, HR.out.1.len⟩)
      have HLk := Lib.hid HR.out.2
      clear hwc HR HPl HPN HPS Hbb
      go_upto_region 20 with fail
      have hB3 := (((Below.refl wc.heap.size wc).alloc (Nat.le_refl _) (.cells #[] IT)).alloc (by simp) (.cells #[.slice (some ⟨wc.heap.size, 0, none⟩) 0 0] ITS)).alloc (by simp; omega) (.cells #[.int .i64 0] INT)
      have hbz := ((Blk.new wc #[] IT).alloc (.cells #[.slice (some ⟨wc.heap.size, 0, none⟩) 0 0] ITS)).alloc (.cells #[.int .i64 0] INT)
      have hbl := (Blk.new (wc.alloc (.cells #[] IT)) #[.slice (some ⟨wc.heap.size, 0, none⟩) 0 0] ITS).alloc (.cells #[.int .i64 0] INT)
      have hbf := Blk.new ((wc.alloc (.cells #[] IT)).alloc (.cells #[.slice (some ⟨wc.heap.size, 0, none⟩) 0 0] ITS)) #[.int .i64 0] INT
      simp only [World.size_alloc] at hbl hbf
      have HR3 := Lib.hid (show DQ wA _ p F n m s rp G log xs.length from ⟨HR2.out.both.below hB3, HR2.out.base, HR2.out.below.trans (hB3.mono HR2.out.below.size), HR2.out.few, HR2.out.len⟩)
      have HWz := Lib.hid (show wA.heap.size ≤ wc.heap.size ∧ (∀ x ∈ F ++ G, x < wc.heap.size) from ⟨HR2.out.below.size, fun x hx => by
        rcases List.mem_append.1 hx with hx | hx
        · exact HR2.out.both.q.flt x hx
        · exact HR2.out.both.r.flt x hx⟩)
      generalize ((wc.alloc (.cells #[] IT)).alloc (.cells #[.slice (some ⟨wc.heap.size, 0, none⟩) 0 0] ITS)).alloc (.cells #[.int .i64 0] INT) = w3 at hB3 hbz hbl hbf HR3 ⊢
      generalize wc.heap.size = bz at hB3 hbz hbl hbf HWz ⊢
      have HZ := Lib.hid (And.intro hbz (And.intro hbl hbf))
      clear hB3 hbz hbl hbf HR2
      go_wp2_with fail
      refine (each_calls w3 p).mono ?_
      rintro e w4 ⟨rfl, hw4⟩
      have hB4 : Below w3.heap.size w3 w4 := by rw [hw4]; exact (Below.refl _ _).alloc (Nat.le_refl _) _
      have hbq : Blk w4 w3.heap.size #[.pointer (some ⟨p, 0, none⟩)] 81 := by rw [hw4]; exact Blk.new _ _ _
      clear hw4
      have HI0 := Lib.hid (show InE w w4 w4 p F n m s rp G log bw (bw + 1) (bz + 1) (bz + 1 + 1) [] 0 (.slice (some ⟨bz, 0, none⟩) 0 0) from by
        obtain ⟨z1, z2, z3⟩ := HZ.out
        have l1 := z1.lt
        have l2 := z2.lt
        have l3 := z3.lt
        have l4 := hB4.size
        obtain ⟨hB0, hbw, hbr, hbe⟩ := HA.out
        have l5 := hbr.lt
        have l6 := HWz.out.1
        refine ⟨⟨by omega, by omega, by omega, fun x hx => ?_, fun x hx => ?_⟩, Nat.le_refl _, ((hbw.below HR3.out.below)).below hB4, ((hbr.below HR3.out.below)).below hB4, z2.below hB4, z3.below hB4, ?_, ?_, ⟨by simp, .inl rfl⟩, ⟨by simp, by simp⟩, HR3.out.both.q.below hB4, HR3.out.both.r.below hB4, below_then (below_then hB0 HR3.out.below) hB4⟩
        · have a1 := HR3.out.base x hx
          have a2 := HWz.out.2 x hx
          omega
        · have a2 := HWz.out.2 x hx
          omega
        · exact .inr ⟨bz, 0, rfl, ⟨⟨#[], z1.below hB4, rfl, rfl⟩, Nat.le_refl _, Nat.zero_le _⟩⟩
        · intro g hg
          have hg : some bz = some g := hg
          injection hg with hg
          subst hg
          refine ⟨by omega, by omega, by omega, by omega, by omega, fun hx => ?_⟩
          have a2 := HWz.out.2 bz hx
          omega)
      have HSt := Lib.hid (each1_calls 9 w4 p F n m s w3.heap.size (bz + 1) [bz + 1 + 1, bz + 1] HI0.out.q hbq (by
          have h1 := HI0.out.hl.lt
          have h2 := HI0.out.hf.lt
          intro b hb
          simp at hb
          rcases hb with rfl | rfl
          · exact h2
          · exact h1) HI0.out.hl.lt (fun g hg => by
          unfold ownB at hg
          rw [HI0.out.hl.cell (o := 0) rfl] at hg
          have hg : some bz = some g := hg
          injection hg with hg
          subst hg
          have := HI0.out.hl.lt
          omega) (by decide))
      generalize w3.heap.size = bq at hbq HSt ⊢
      clear hbq hB4 HR3 HZ
      go_wp2_with fail
      refine wpIn_wide (n := 10) |>.1 ?_
      refine range_upd (gf := 91) (lb := #[.pointer (some ⟨bq, 0, none⟩)]) rfl (by decide) rfl trivial (enters_of Try.func91 (by kernel_rfl) rfl) HSt.out KpL.trans (fun W l o o' h1 h2 h3 _ => KpL.put h2 h3 (by have := HI0.out.hl.lt; omega)) (Below.refl _ _) (fun _ => rfl)
        (fun pre W => ∃ fv hd, InE w w4 W p F n m s rp G log bw (bw + 1) (bz + 1) (bz + 1 + 1) pre fv hd) (fun _ pre _ => ¬ RiseL n pre)
        (fun pre A B row ⟨fv, hd, h⟩ hg hr => ⟨fv, hd, h.grown HI0.out.below.size hg hr⟩) (fun _ _ _ _ _ h _ _ => h) ⟨0, _, HI0.out⟩
        frE (frE_eq _) updE (fun x => #[.int .i64 x.2.frm, .int .i64 x.2.at_, .int .i64 x.2.seq]) IT ?assign ?body ?done ?stop
      case assign =>
        rintro l pre x W K ⟨fv, hd, hI⟩ hK
        unfold frE
        have HI := Lib.hid hI
        clear hI
        gi_wp2
        exact hK _ _ ((KeepsOthers.alloc _ _).from _) (KpL.of_below ((Below.refl _ W).alloc (Nat.le_refl _) _) HI.out.hl.lt) ⟨fv, hd, HI.out.on ((Below.refl _ W).alloc (Nat.le_refl _) _)⟩ ⟨W.heap.size, HI.out.size, Blk.new W _ IT, by unfold updE; simp⟩
      case body =>
        rintro l pre x Bx W hBx hbX ⟨fv, hd, hI⟩ hlt
        have cx0 : W.cell? ⟨Bx, 0, none⟩ = some (.int .i64 x.2.frm) := hbX.cell (o := 0) rfl
        have cx1 : W.cell? ⟨Bx, 1, none⟩ = some (.int .i64 x.2.at_) := hbX.cell (o := 1) rfl
        have cx2 : W.cell? ⟨Bx, 2, none⟩ = some (.int .i64 x.2.seq) := hbX.cell (o := 2) rfl
        have HbX := Lib.hid hbX
        have HBx := Lib.hid hBx
        have cf : W.cell? ⟨bz + 1 + 1, 0, none⟩ = some (.int .i64 (fv : Nat)) := hI.hf.cell (o := 0) rfl
        have cw : W.cell? ⟨bw, 0, none⟩ = some (.int .i64 (n : Nat)) := hI.hw.cell (o := 0) rfl
        have cl : W.cell? ⟨bz + 1, 0, none⟩ = some hd := hI.hl.cell (o := 0) rfl
        have cr : W.cell? ⟨bw + 1, 0, none⟩ = some (.bool false) := hI.hr.cell (o := 0) rfl
        have ff := hI.hf.free 0
        have fr := hI.hr.free 0
        have HI := Lib.hid hI
        have HLt := Lib.hid hlt
        clear hbX hBx hI hlt
        unfold updE
        by_cases hx1 : x.1 < fv
        · have hx1' : ((x.1 : Nat) : Int) < (fv : Nat) := by omega
          clear hx1
          gi_wp2
          exact ⟨(KeepsOthers.setCell _ _ _).from _, topL_no HI.out.top x (.inl (by omega))⟩
        · have hx1' : ((fv : Nat) : Int) ≤ (x.1 : Nat) := by omega
          clear hx1
          by_cases hx2 : n ≤ x.1
          · have hx2' : ((n : Nat) : Int) ≤ (x.1 : Nat) := by omega
            clear hx2
            gi_wp2
            exact ⟨(KeepsOthers.setCell _ _ _).from _, topL_no HI.out.top x (.inr (by omega))⟩
          · have hx2' : ((x.1 : Nat) : Int) < (n : Nat) := by omega
            clear hx2
            obtain ⟨AL, cL, rfl⟩ := HI.out.list.shape
            have hne : ∀ g, (Value.slice AL (pre.map Prod.snd).length cL).ownBlock = some g → g ≠ bz + 1 + 1 ∧ g ≠ bz + 1 := fun g hg => by
              obtain ⟨_, _, _, o1, o2, _⟩ := HI.out.own g hg
              exact ⟨o2, o1⟩
            have hlen : (pre.map Prod.snd).length ≤ 1000000 := by
              rw [List.length_map]
              have h1 := HLt.out
              have h2 := eachTo_le HI.out.q.ok
              have h3 := HI.out.q.small
              omega
            obtain ⟨g4, c4, w4, e4, hR4, hold, hown, hz, z1, z2, z3⟩ := append_rec_run (P := Try.prog) (W := W.setCell ⟨bz + 1 + 1, 0, none⟩ (.int .i64 (x.1 : Nat))) ITS ITS IT _ 24 Try.underlying100 infoI rfl (by decide) encI_len encI_one (HI.out.list.same fun g hg => Below.heap_setCell _ _ _ _ (hne g hg).1) x.2 hlen (by decide)
            have hw4l : w4.heap[bz + 1]? = W.heap[bz + 1]? := (hold (bz + 1) (by simpa using HI.out.hl.lt) (fun e => (hne _ e).2 rfl)).trans (Below.heap_setCell _ _ _ _ (by simp))
            have hl4 : Blk w4 (bz + 1) #[.slice AL (pre.map Prod.snd).length cL] ITS := hw4l.trans HI.out.hl
            have cl4 : w4.cell? ⟨bz + 1, 0, none⟩ = some (.slice AL (pre.map Prod.snd).length cL) := hl4.cell (o := 0) rfl
            have fl4 := hl4.free 0
            have HSp := Lib.hid (HI.out.step x (by omega) (by omega) hR4 hold hown hz z1 z2 z3)
            rw [List.length_map] at e4 cl4 cl
            rw [World.size_setCell] at e4
            unfold encI at e4
            have hXo := HbX.out.other (a := ⟨bz + 1 + 1, 0, none⟩) (by have := HI.out.bxs.lt.2.2.2; have := HBx.out; show Bx ≠ bz + 1 + 1; omega) (.int .i64 (x.1 : Nat))
            have hLo := HI.out.hl.other (a := ⟨bz + 1 + 1, 0, none⟩) (by show bz + 1 ≠ bz + 1 + 1; omega) (.int .i64 (x.1 : Nat))
            have ex0 : (W.setCell ⟨bz + 1 + 1, 0, none⟩ (.int .i64 (x.1 : Nat))).cell? ⟨Bx, 0, none⟩ = some (.int .i64 x.2.frm) := hXo.cell (o := 0) rfl
            have ex1 : (W.setCell ⟨bz + 1 + 1, 0, none⟩ (.int .i64 (x.1 : Nat))).cell? ⟨Bx, 1, none⟩ = some (.int .i64 x.2.at_) := hXo.cell (o := 1) rfl
            have ex2 : (W.setCell ⟨bz + 1 + 1, 0, none⟩ (.int .i64 (x.1 : Nat))).cell? ⟨Bx, 2, none⟩ = some (.int .i64 x.2.seq) := hXo.cell (o := 2) rfl
            have el : (W.setCell ⟨bz + 1 + 1, 0, none⟩ (.int .i64 (x.1 : Nat))).cell? ⟨bz + 1, 0, none⟩ = some (.slice AL (pre.map Prod.snd).length cL) := hLo.cell (o := 0) rfl
            rw [List.length_map] at el
            clear hne hlen hR4 hold hown hz z1 z2 z3 hw4l hl4 hXo hLo cx0 cx1 cx2 cl
            gi_wp2
            exact ⟨HSp.out.2.1.from _, HSp.out.2.2, _, _, HSp.out.1⟩
      case done =>
        rintro D ys W hD rfl ⟨fv, hd, hI⟩ hK
        have HI := Lib.hid hI
        have HK := Lib.hid (And.intro hD hK)
        have hz0 := (Below.refl W.heap.size W).alloc (Nat.le_refl _) (.cells #[] RT)
        have HZ0 := Lib.hid (And.intro hz0 (show Recs encR 5 (W.alloc (.cells #[] RT)) RT W.heap.size 0 [] from recs0 W))
        have hn64 : (n : Int) ≤ 64 := by omega
        clear hI hD hK hz0 HSt HI0
        go_wp2_with fail
        go_loopw [20, 21] (fun v i wr => ∃ (j g c : Nat), j ≤ n ∧ i = .int .i64 j ∧ v = .slice (some ⟨g, 0, none⟩) (allTo log j).length c ∧ W.heap.size ≤ g ∧ Recs encR 5 wr RT g c (allTo log j) ∧ Below W.heap.size W wr) (fun _ i _ => n - (intOf i).toNat)
        case atStart => exact ⟨0, W.heap.size, 0, by omega, rfl, rfl, Nat.le_refl _, HZ0.out.2, HZ0.out.1⟩
        case round =>
          obtain ⟨j, g, c, hj, rfl, rfl, hg, hR, hb⟩ := hrel
          have HB := Lib.hid (And.intro hb (And.intro hg hR))
          have cw : wr.cell? ⟨bw, 0, none⟩ = some (.int .i64 (n : Nat)) := (HI.out.hw.below hb).cell (o := 0) rfl
          clear hg hR hb HZ0
          by_cases hlt : j < n
          · have hj0 : (0 : Int) ≤ (j : Int) := by omega
            have hj1 : (j : Int) < (n : Int) := by omega
            have HCa := Lib.hid (rall_calls wr rp G n log (j : Int) (HI.out.r.below HB.out.1))
            go_wp2_with fail
            refine HCa.out.mono ?_
            rintro e w5 ⟨hdY, rfl, hH, hgY, hb5⟩
            have hlen := allTo_len HLk.out HI.out.q.ok (k := j + 1) (by omega)
            rw [allTo_succ, List.length_append] at hlen
            have hsm := HI.out.q.small
            obtain ⟨g', c', w6, e6, hR6, hold, hown, hz, z1, z2, z3⟩ := append_rows_run w5 g c hdY (allTo log j) (allL log (j : Int)) (HB.out.2.2.below hb5) hH (by omega)
            have H6 := Lib.hid (show Recs encR 5 w6 RT g' c' (allTo log (j + 1)) ∧ Below W.heap.size W w6 ∧ W.heap.size ≤ g' from by
              have s1 := HB.out.1.size
              have s2 := hb5.size
              have s3 := HB.out.2.1
              refine ⟨by rw [allTo_succ]; exact hR6, ⟨z1.trans (hb5.os.trans HB.out.1.os), z2.trans (hb5.tape.trans HB.out.1.tape), z3.trans (hb5.output.trans HB.out.1.output), by omega, fun k hk => ?_⟩, by rcases hown with e | e <;> omega⟩
              rw [hold k (by omega) (by omega), hb5.block k (by omega), HB.out.1.block k hk])
            have hle : (allTo log (j + 1)).length = (allTo log j).length + (allL log (j : Int)).length := by rw [allTo_succ, List.length_append]
            have Hle := Lib.hid hle
            obtain ⟨AY, cY, rfl⟩ := hH.shape
            clear hH hgY hb5 hR6 hold hown hz z1 z2 z3 hlen hsm hle HCa
            go_wp2_with fail
            go_roundw
            case rel => exact ⟨j + 1, g', c', by omega, by go_num, by rw [Hle.out], H6.out.2.2, H6.out.1, H6.out.2.1⟩
            case measure => simp [intOf]; omega
          · obtain rfl : j = n := by omega
            have HE := Lib.hid (show EndE w w4 wr p F j m s rp G log bw (bw + 1) (bz + 1) (bz + 1 + 1) fv hd g c D from ⟨HI.out.on HB.out.1, HB.out.2.2, (HB.out.1.block D (Array.getElem?_eq_some_iff.1 HK.out.2).1).trans HK.out.2⟩)
            have HD := Lib.hid (show w.heap.size ≤ D from Nat.le_trans (Nat.le_of_lt (Nat.lt_of_le_of_lt HI.out.bxs.ge.2.1 HI.out.bxs.lt.2.1)) HK.out.1)
            have CAl := Lib.hid (fun (W : World) (h : EndE w w4 W p F j m s rp G log bw (bw + 1) (bz + 1) (bz + 1 + 1) fv hd g c D) => all_calls W p F j m s ask h.i.q)
            have CRa := Lib.hid (fun (W : World) (h : EndE w w4 W p F j m s rp G log bw (bw + 1) (bz + 1) (bz + 1 + 1) fv hd g c D) => rall_calls W rp G j log ask h.i.r)
            have CLe := Lib.hid (fun (W : World) (h : EndE w w4 W p F j m s rp G log bw (bw + 1) (bz + 1) (bz + 1 + 1) fv hd g c D) => len_calls W p F j m s ask h.i.q)
            have CSe := Lib.hid (fun (W : World) (h : EndE w w4 W p F j m s rp G log bw (bw + 1) (bz + 1) (bz + 1 + 1) fv hd g c D) => sent_calls W p F j m s ask other HKK.out.1 HKK.out.2.1 h.i.q)
            have CRs := Lib.hid (fun (W : World) (h : EndE w w4 W p F j m s rp G log bw (bw + 1) (bz + 1) (bz + 1 + 1) fv hd g c D) => rsent_calls W rp G j log ask other h.i.r)
            have CWh := Lib.hid (fun (W : World) (h : EndE w w4 W p F j m s rp G log bw (bw + 1) (bz + 1) (bz + 1 + 1) fv hd g c D) => where_calls W p F j m s at_ HKK.out.2.2 h.i.q)
            have CWo := Lib.hid (fun (W : World) (h : EndE w w4 W p F j m s rp G log bw (bw + 1) (bz + 1) (bz + 1 + 1) fv hd g c D) => workers_calls W p F j m s h.i.q)
            have hL1 := HLk.out.rowsI ask
            have HL1 := Lib.hid hL1
            have HL2 := Lib.hid (HLk.out.each j (Nat.le_refl _))
            rw [show (rowI j s ask).length = (allL log ask).length by rw [hL1, List.length_map]] at CLe
            rw [HLk.out.sent] at CSe
            generalize ((sentN log ask other : Nat) : Int) = sn at CSe CRs
            generalize whrV s at_ = wv at CWh ⊢
            obtain ⟨AD, cD, hde⟩ := HI.out.list.shape
            rw [List.length_map] at hde
            subst hde
            have HE0 := Lib.hid (HE.out.on (Below.refl _ _).drew)
            have HS := Lib.hid (fun (W : World) (h : EndE w w4 W p F j m s rp G log bw (bw + 1) (bz + 1) (bz + 1 + 1) fv (.slice AD (eachTo s j).length cD) g c D) => (show W.cell? ⟨bz + 1, 0, none⟩ = some (.slice AD (eachTo s j).length cD) ∧ W.cell? ⟨bw, 0, none⟩ = some (.int .i64 (j : Nat)) from ⟨h.cells.1, h.cells.2.1⟩))
            have CA2 := Lib.hid (fun (W : World) (h : EndE w w4 W p F j m s rp G log bw (bw + 1) (bz + 1) (bz + 1 + 1) fv (.slice AD (eachTo s j).length cD) g c D) => alike_calls W (.slice AD (eachTo s j).length cD) (.slice (some ⟨g, 0, none⟩) (allTo log j).length c) _ _ h.i.list (.inr ⟨g, c, rfl, h.a⟩) HL2.out)
            clear hL1 HB
            go_wp2_with fail
            go_region_held3 (fun w' => w'.cell? ⟨bz + 1, 0, none⟩ = some (.slice AD (eachTo s j).length cD) ∧ w'.cell? ⟨bw, 0, none⟩ = some (.int .i64 (j : Nat)))
              (first | exact HS.out _ HE.out | exact HS.out _ HE0.out | exact HS.out _ H5.out.2 | exact HS.out _ H6.out.2.2 | exact HS.out _ H7.out | exact HS.out _ H8.out | exact HS.out _ H9.out | exact H9.out.last)
              ((first
                | (go_at_call 58; (with_reducible refine (Calls.mono (CAl.out _ HE0.out) ?_)); rintro e w5 ⟨hd5, rfl, hk, _, hb⟩; have H5 := Lib.hid (And.intro hk (HE0.out.on hb)); clear hk hb)
                | (go_at_call 64; (with_reducible refine (Calls.mono (CRa.out _ H5.out.2) ?_)); rintro e w6 ⟨hd6, rfl, hk, _, hb⟩; have H6 := Lib.hid (And.intro (H5.out.1.below hb) (And.intro hk (H5.out.2.on hb))); clear hk hb)
                | (go_at_call 65; (with_reducible refine (Calls.mono (alike_calls _ _ _ _ _ H6.out.1 H6.out.2.1 HL1.out) ?_)); rintro e w7 ⟨rfl, hb⟩; have H7 := Lib.hid (H6.out.2.2.on hb); clear hb)
                | (go_at_call 65; (with_reducible refine (Calls.mono (CA2.out _ H7.out) ?_)); rintro e w8 ⟨rfl, hb⟩; have H8 := Lib.hid (H7.out.on hb); clear hb)
                | (go_at_call 55; (with_reducible refine (Calls.mono (CLe.out _ H8.out) ?_)); rintro e w9 ⟨rfl, rfl⟩)
                | (go_at_call 64; (with_reducible refine (Calls.mono (CRa.out _ H8.out) ?_)); rintro e w9 ⟨hd9, rfl, hk, _, hb⟩; obtain ⟨A9, c9, rfl⟩ := hk.shape; have H9 := Lib.hid (H8.out.on hb); clear hk hb)
                | (go_at_call 53; (with_reducible refine (Calls.mono (CSe.out _ H9.out) ?_)); rintro e w10 ⟨rfl, rfl⟩)
                | (go_at_call 66; (with_reducible refine (Calls.mono (CRs.out _ H9.out) ?_)); rintro e w10 ⟨rfl, rfl⟩)
                | (go_at_call 60; (with_reducible refine (Calls.mono (CWh.out _ H9.out) ?_)); rintro e w10 ⟨rfl, rfl⟩)
                | (go_at_call 67; (with_reducible refine (Calls.mono (CWo.out _ H9.out) ?_)); rintro e w10 ⟨rfl, rfl⟩; obtain ⟨_, _, cr9, fr9⟩ := H9.out.cells)))
            go_wp2_with fail
            obtain ⟨o1, o2, o3⟩ := H9.out.out HD.out
            refine ⟨by simp, .inl ⟨_, _, rfl, run_takeDeferred o1, ?_⟩⟩
            exact ⟨_, results_cell1 rfl _ _ _ _ rfl o2, rfl, o3⟩
      case stop =>
        rintro D c pre W _ hp h _
        exact absurd ((rise_each s n).pre hp) h
end Go.Proofs.Ytchnhmcedmicgaa.Rem
