/- The contract of package underpinref07's Put. -/
import Derived.Test.YtldlogmjkbhomaaRngS
set_option linter.unusedSimpArgs false
namespace Go.Proofs.Ytldlogmjkbhomaa.Rng
open Go.RowKit Go.Proofs.Ytldlogmjkbhomaa.Aid
theorem ap0_run (W : World) (gz : Nat) (hd : Value) (log : List Nat) (h0 : Recs enc1 1 W IT gz 0 []) (hH : Hdr enc1 1 W IT hd log) (hl : log.length ≤ 90000) :
    ∃ g1 c1 w', (Builtin.append_ #[68, 68] 68 #[.slice (some ⟨gz, 0, none⟩) 0 0, hd]).run Try.prog W = .ok (.slice (some ⟨g1, 0, none⟩) log.length c1) w' ∧ Gr W gz g1 c1 w' log := by
  have := ap_run W gz 0 hd [] log h0 hH (by rw [List.length_nil]; omega)
  rwa [List.length_nil, Nat.zero_add, List.nil_append] at this
theorem ap2_run (W : World) (g1 c1 b cb : Nat) (log : List Nat) (r : Nat) (h1 : Recs enc1 1 W IT g1 c1 log) (hY : Recs enc1 1 W IT b cb [r]) (hl : log.length ≤ 90000) :
    ∃ g2 c2 w', (Builtin.append_ #[68, 68] 68 #[.slice (some ⟨g1, 0, none⟩) log.length c1, .slice (some ⟨b, 0, none⟩) 1 cb]).run Try.prog W = .ok (.slice (some ⟨g2, 0, none⟩) (log.length + 1) c2) w' ∧ Gr W g1 g2 c2 w' (log ++ [r]) :=
  ap_run W g1 c1 (.slice (some ⟨b, 0, none⟩) 1 cb) log [r] h1 (.inr ⟨b, cb, rfl, hY⟩) (by rw [List.length_singleton]; omega)
structure Two (w : World) (log : List Nat) (r : Nat) (g2 c2 : Nat) (w' : World) : Prop where
  recs : Recs enc1 1 w' IT g2 c2 (log ++ [r])
  le : w.heap.size ≤ g2
  below : Below w.heap.size w w'
theorem recs0 (W : World) : Recs enc1 1 (W.alloc (.cells #[] 3)) 3 W.heap.size 0 [] := ⟨⟨#[], Blk.new W #[] _, rfl, rfl⟩, Nat.le_refl _, Nat.zero_le _⟩
theorem recs1 (W : World) (r : Nat) : Recs enc1 1 (W.alloc (.cells #[.int .i64 r] 3)) 3 W.heap.size 1 [r] := Recs.lit W r _ enc1_len
abbrev oR (r : Nat) : Obj := .cells #[.int .i64 r] 3
theorem scen_a (w : World) (hd : Value) (log : List Nat) (r : Nat) (hH : Hdr enc1 1 w 3 hd log) (hl : log.length ≤ 90000) : ∃ g1 c1 w1 g2 c2 w2,
    (Builtin.append_ #[68, 68] 68 #[.slice (some ⟨w.heap.size, 0, none⟩) 0 0, hd]).run Try.prog (w.alloc (.cells #[] 3)).drew = .ok (.slice (some ⟨g1, 0, none⟩) log.length c1) w1 ∧
    (Builtin.append_ #[68, 68] 68 #[.slice (some ⟨g1, 0, none⟩) log.length c1, .slice (some ⟨w1.heap.size, 0, none⟩) 1 1]).run Try.prog (w1.alloc (oR r)) = .ok (.slice (some ⟨g2, 0, none⟩) (log.length + 1) c2) w2 ∧ Two w log r g2 c2 w2 ∧ Below w.heap.size w w1 := by
  have hb0 := ((Below.refl w.heap.size w).alloc (Nat.le_refl _) (.cells #[] 3)).drew
  obtain ⟨g1, c1, w1, e1, h1⟩ := ap0_run (w.alloc (.cells #[] 3)).drew w.heap.size hd log (recs0 w).drew (hH.below hb0) hl
  obtain ⟨b1, l1⟩ := h1.below hb0 hb0.size (Nat.le_refl _)
  have hb1 := b1.alloc b1.size (oR r)
  obtain ⟨g2, c2, w2, e2, h2⟩ := ap2_run (w1.alloc (oR r)) g1 c1 w1.heap.size 1 log r (h1.recs.alloc _) (recs1 w1 r) hl
  obtain ⟨b2, l2⟩ := h2.below hb1 hb1.size l1
  exact ⟨g1, c1, w1, g2, c2, w2, e1, e2, ⟨h2.recs, l2, b2⟩, b1⟩
theorem scen_b (w : World) (hd : Value) (log : List Nat) (r : Nat) (hH : Hdr enc1 1 w 3 hd log) (hl : log.length ≤ 90000) : ∃ g1 c1 w1 g2 c2 w2,
    (Builtin.append_ #[68, 68] 68 #[.slice (some ⟨w.heap.size, 0, none⟩) 0 0, hd]).run Try.prog ((w.alloc (.cells #[] 3)).alloc (oR r)).drew = .ok (.slice (some ⟨g1, 0, none⟩) log.length c1) w1 ∧
    (Builtin.append_ #[68, 68] 68 #[.slice (some ⟨g1, 0, none⟩) log.length c1, .slice (some ⟨w.heap.size + 1, 0, none⟩) 1 1]).run Try.prog w1 = .ok (.slice (some ⟨g2, 0, none⟩) (log.length + 1) c2) w2 ∧ Two w log r g2 c2 w2 ∧ Below w.heap.size w w1 := by
  have hb0 := (Below.refl w.heap.size w).alloc (Nat.le_refl _) (.cells #[] 3)
  have hb1 := (hb0.alloc hb0.size (oR r)).drew
  have hr1 := recs1 (w.alloc (.cells #[] 3)) r
  have hz : (w.alloc (.cells #[] 3)).heap.size = w.heap.size + 1 := by simp
  rw [hz] at hr1
  obtain ⟨g1, c1, w1, e1, h1⟩ := ap0_run ((w.alloc (.cells #[] 3)).alloc (oR r)).drew w.heap.size hd log ((recs0 w).alloc _).drew (hH.below hb1) hl
  obtain ⟨b1, l1⟩ := h1.below hb1 hb1.size (Nat.le_refl _)
  have hr2 : Recs enc1 1 w1 3 (w.heap.size + 1) 1 [r] := hr1.drew.same (h1.hold (w.heap.size + 1) hr1.lt (by omega))
  obtain ⟨g2, c2, w2, e2, h2⟩ := ap2_run w1 g1 c1 (w.heap.size + 1) 1 log r h1.recs hr2 hl
  obtain ⟨b2, l2⟩ := h2.below b1 b1.size l1
  exact ⟨g1, c1, w1, g2, c2, w2, e1, e2, ⟨h2.recs, l2, b2⟩, b1⟩
theorem scen_c (w : World) (hd : Value) (log : List Nat) (r : Nat) (hH : Hdr enc1 1 w 3 hd log) (hl : log.length ≤ 90000) : ∃ g1 c1 w1 g2 c2 w2,
    (Builtin.append_ #[68, 68] 68 #[.slice (some ⟨w.heap.size + 1, 0, none⟩) 0 0, hd]).run Try.prog ((w.alloc (oR r)).alloc (.cells #[] 3)).drew = .ok (.slice (some ⟨g1, 0, none⟩) log.length c1) w1 ∧
    (Builtin.append_ #[68, 68] 68 #[.slice (some ⟨g1, 0, none⟩) log.length c1, .slice (some ⟨w.heap.size, 0, none⟩) 1 1]).run Try.prog w1 = .ok (.slice (some ⟨g2, 0, none⟩) (log.length + 1) c2) w2 ∧ Two w log r g2 c2 w2 ∧ Below w.heap.size w w1 := by
  have hb0 := (Below.refl w.heap.size w).alloc (Nat.le_refl _) (oR r)
  have hb1 := (hb0.alloc hb0.size (.cells #[] 3)).drew
  have hr0 := recs0 (w.alloc (oR r))
  have hz : (w.alloc (oR r)).heap.size = w.heap.size + 1 := by simp
  rw [hz] at hr0
  obtain ⟨g1, c1, w1, e1, h1⟩ := ap0_run ((w.alloc (oR r)).alloc (.cells #[] 3)).drew (w.heap.size + 1) hd log hr0.drew (hH.below hb1) hl
  obtain ⟨b1, l1⟩ := h1.below hb1 hb1.size (by omega)
  have hr1 := (recs1 w r).alloc (.cells #[] 3)
  have hr2 : Recs enc1 1 w1 3 w.heap.size 1 [r] := hr1.drew.same (h1.hold w.heap.size hr1.lt (by omega))
  obtain ⟨g2, c2, w2, e2, h2⟩ := ap2_run w1 g1 c1 w.heap.size 1 log r h1.recs hr2 hl
  obtain ⟨b2, l2⟩ := h2.below b1 b1.size l1
  exact ⟨g1, c1, w1, g2, c2, w2, e1, e2, ⟨h2.recs, l2, b2⟩, b1⟩
set_option maxHeartbeats 8000000 in
set_option maxRecDepth 20000 in
attribute [-go_sem] Builtin.append_ in
theorem rput_back (w : World) (q : Nat) (F : List Nat) (N L : Nat) (s : RgS) (l x : Nat) (h : LAt w q F N L s) (hl : l < L) (hx : x < N) (hxn : ∀ k, x ∉ s k) :
    Calls Try.prog 72 #[.pointer (some ⟨q, 0, none⟩), .int .i64 l, .int .i64 x, .bool false] w fun e w' => e = .returned (.int .i64 0) ∧ LWrote q F N L (updL s l (s l ++ [x])) w w' := by
  have HI := Lib.hid (rin_calls w q F N L s x h)
  have hok := h.ok
  obtain ⟨lb, hs, hP⟩ := h.ex
  have HInn := Lib.hid (fun (a b : Int) (hab : InAt s L x a b) => show a = -1 from by rw [← in_none hok hab]; exact (lk_a_none hok).2 hxn)
  have c0 := hP.c0
  have c1 := hP.c1
  obtain ⟨hd, hk, hc, hH⟩ := hP.row hl
  have hN := hok.n
  have hL := hok.l2
  have hln : (s l).length ≤ 90000 := by have := hok.len l; omega
  obtain ⟨ga, ca, wa, gA, cA, wA, ea1, ea2, TA, ba⟩ := scen_a w hd (s l) x hH hln
  obtain ⟨gb, cb, wb, gB, cB, wB, eb1, eb2, TB, bb⟩ := scen_b w hd (s l) x hH hln
  obtain ⟨gc, cc, wc, gC, cC, wC, ec1, ec2, TC, bc⟩ := scen_c w hd (s l) x hH hln
  replace ea2 : (Builtin.append_ #[68, 68] 68 #[.slice (some ⟨ga, 0, none⟩) (s l).length ca, .slice (some ⟨wa.heap.size, 0, none⟩) 1 1]).run Try.prog (wa.alloc (.cells #[.int .i64 x] 3)) = .ok (.slice (some ⟨gA, 0, none⟩) ((s l).length + 1) cA) wA := ea2
  replace eb1 : (Builtin.append_ #[68, 68] 68 #[.slice (some ⟨w.heap.size, 0, none⟩) 0 0, hd]).run Try.prog ((w.alloc (.cells #[] 3)).alloc (.cells #[.int .i64 x] 3)).drew = .ok (.slice (some ⟨gb, 0, none⟩) (s l).length cb) wb := eb1
  replace ec1 : (Builtin.append_ #[68, 68] 68 #[.slice (some ⟨w.heap.size + 1, 0, none⟩) 0 0, hd]).run Try.prog ((w.alloc (.cells #[.int .i64 x] 3)).alloc (.cells #[] 3)).drew = .ok (.slice (some ⟨gc, 0, none⟩) (s l).length cc) wc := ec1
  have hrow : ∀ W, Below w.heap.size w W → W.cell? ⟨lb, l, none⟩ = some hd := fun W hb => by
    have hlt : l < hs.length := by rw [hP.hlen]; exact hl
    rw [(hP.rows.below hb).cell hlt, hk]
  have b0 := Below.refl w.heap.size w
  have b1 := b0.alloc (Nat.le_refl _) (.cells #[] 3)
  have b2 := b0.alloc (Nat.le_refl _) (.cells #[.int .i64 x] 3)
  have b3 := b1.alloc b1.size (.cells #[.int .i64 x] 3)
  have b4 := b2.alloc b2.size (.cells #[] 3)
  have b8 := ba.alloc ba.size (.cells #[.int .i64 x] 3)
  have r1 := hrow _ b1
  have r2 := hrow _ b2
  have r3 := hrow _ b3
  have r4 := hrow _ b4
  have r5 := hrow _ TA.below
  have r6 := hrow _ TB.below
  have r7 := hrow _ TC.below
  have f5 := (hP.rows.below TA.below).free l
  have f6 := (hP.rows.below TB.below).free l
  have f7 := (hP.rows.below TC.below).free l
  have hok2 : OkG N L (updL s l (s l ++ [x])) := ok_ins (A := s l) (B := []) hok (by simp) hl hxn hx
  have hl1 : (s l ++ [x]).length = (s l).length + 1 := by simp
  have HTA := Lib.hid (lwrote_set hP hok2 TA.below TA.le TA.recs)
  have HTB := Lib.hid (lwrote_set hP hok2 TB.below TB.le TB.recs)
  have HTC := Lib.hid (lwrote_set hP hok2 TC.below TC.le TC.recs)
  rw [hl1] at HTA HTB HTC
  have HSg := fun (W : World) (hb : Below w.heap.size w W) => (hP.head.below hb).cell (o := 1) rfl
  have HSh := fun (W : World) (hb : Below w.heap.size w W) (v : Value) => ((hP.head.below hb).other (a := ⟨lb, l, none⟩) hP.ne v).cell (o := 1) rfl
  have S0 := Lib.hid c1
  have S1 := Lib.hid (HSg _ b1.drew)
  have S2 := Lib.hid (HSg _ b2.drew)
  have S3 := Lib.hid (HSg _ b3.drew)
  have S4 := Lib.hid (HSg _ b4.drew)
  have S5 := Lib.hid (HSg _ ba)
  have S6 := Lib.hid (HSg _ bb)
  have S7 := Lib.hid (HSg _ bc)
  have S8 := Lib.hid (HSg _ b8)
  have S9 := Lib.hid (HSg _ TA.below)
  have S10 := Lib.hid (HSg _ TB.below)
  have S11 := Lib.hid (HSg _ TC.below)
  have S12 := Lib.hid (HSh _ TA.below (.slice (some ⟨gA, 0, none⟩) ((s l).length + 1) cA))
  have S13 := Lib.hid (HSh _ TB.below (.slice (some ⟨gB, 0, none⟩) ((s l).length + 1) cB))
  have S14 := Lib.hid (HSh _ TC.below (.slice (some ⟨gC, 0, none⟩) ((s l).length + 1) cC))
  have l0 : (0 : Int) ≤ (l : Int) := by omega
  have l1 : (l : Int) < (L : Int) := by omega
  have x0 : (0 : Int) ≤ (x : Int) := by omega
  have x1 : (x : Int) < (N : Int) := by omega
  have HE := Lib.hid (And.intro ea1 (And.intro ea2 (And.intro eb1 (And.intro eb2 (And.intro ec1 ec2)))))
  have HR := Lib.hid (And.intro hc (And.intro r1 (And.intro r2 (And.intro r3 (And.intro r4 (And.intro r5 (And.intro r6 r7)))))))
  have HF := Lib.hid (And.intro f5 (And.intro f6 f7))
  clear h hP hH hok hok2 hl1 hln hrow HSg HSh b0 b1 b2 b3 b4 b8 ba bb bc TA TB TC hk hxn hN hL hl hx ea1 ea2 eb1 eb2 ec1 ec2 r1 r2 r3 r4 r5 r6 r7 hc f5 f6 f7
  go_enter Try.func72, Try.ntmps72
  go_wp2_with fail
  refine HI.out.mono ?_
  rintro e w2 ⟨⟨a, b, rfl, hab⟩, rfl⟩
  obtain rfl := HInn.out a b hab
  clear hab HI HInn
  go_upto_region 8 with fail
  obtain ⟨ea1, ea2, eb1, eb2, ec1, ec2⟩ := HE.out
  obtain ⟨hc, r1, r2, r3, r4, r5, r6, r7⟩ := HR.out
  obtain ⟨f5, f6, f7⟩ := HF.out
  clear HE HR HF
  go_cut [] (fun wc => LWrote q F N L (updL s l (s l ++ [x])) w wc)
  case first =>
    -- TREE 72 |~ 8 |~ 12 |~ fun w' => w'.cell? ⟨q, 1, none⟩ = some (.slice (some ⟨lb, 0, none⟩) L L) |~ (first | exact S0.out | exact S1.out | exact S2.out | exact S3.out | exact S4.out | exact S5.out | exact S6.out | exact S7.out | exact S8.out | exact S9.out | exact S10.out | exact S11.out | exact S12.out | exact S13.out | exact S14.out) |~ 4 |~ (go_wp2_with fail);;(go_meet);;(first | exact HTA.out | exact HTB.out | exact HTC.out)
    refine wp_region_held_drew (S := fun w' => w'.cell? ⟨q, 1, none⟩ = some (.slice (some ⟨lb, 0, none⟩) L L)) (by kernel_rfl) ?_ (fun hHeld => ?_)
    · (try dsimp only); (first | exact S0.out | exact S1.out | exact S2.out | exact S3.out | exact S4.out | exact S5.out | exact S6.out | exact S7.out | exact S8.out | exact S9.out | exact S10.out | exact S11.out | exact S12.out | exact S13.out | exact S14.out)
    refine wpAnyH_take (i := 0) (v := ?_) rfl (by kernel_rfl) (by kernel_rfl) (by kernel_rfl) (fun _ _ _ h => h) (Or.inl ⟨by rfl, ?_⟩) (by assumption) ?_
    rotate_left
    · (intro w hSw; (try dsimp only at hSw); go_simp <;> with_reducible rfl)
    (try simp only [Act.put, List.setIfInBounds_toArray, List.set_cons_zero, List.set_cons_succ])
    refine wpAnyH_take (i := 1) (v := ?_) rfl (by kernel_rfl) (by kernel_rfl) (by kernel_rfl) (fun _ _ _ h => h) (Or.inl ⟨by rfl, ?_⟩) (by assumption) ?_
    rotate_left
    · (intro w hSw; (try dsimp only at hSw); go_simp <;> with_reducible rfl)
    (try simp only [Act.put, List.setIfInBounds_toArray, List.set_cons_zero, List.set_cons_succ])
    refine wpAnyH_take (i := 2) (v := ?_) rfl (by kernel_rfl) (by kernel_rfl) (by kernel_rfl) (fun _ _ _ h => h) (Or.inl ⟨by rfl, ?_⟩) (by assumption) ?_
    rotate_left
    · (intro w hSw; (try dsimp only at hSw); go_simp <;> with_reducible rfl)
    (try simp only [Act.put, List.setIfInBounds_toArray, List.set_cons_zero, List.set_cons_succ])
    refine wpAnyH_take (i := 3) (v := ?_) rfl (by kernel_rfl) (by kernel_rfl) (by kernel_rfl) (fun _ _ _ h => h) (Or.inl ⟨by rfl, ?_⟩) (by assumption) ?_
    rotate_left
    · (intro w hSw; (try dsimp only at hSw); go_simp <;> with_reducible rfl)
    (try simp only [Act.put, List.setIfInBounds_toArray, List.set_cons_zero, List.set_cons_succ])
    refine wpAnyH_take (i := 4) (v := ?_) rfl (by kernel_rfl) (by kernel_rfl) (by kernel_rfl) (fun _ _ _ h => h) (Or.inl ⟨by rfl, ?_⟩) (by assumption) ?_
    rotate_left
    · (intro w hSw; (try dsimp only at hSw); go_simp <;> with_reducible rfl)
    (try simp only [Act.put, List.setIfInBounds_toArray, List.set_cons_zero, List.set_cons_succ])
    refine wpAnyH_take (i := 6) (v := ?_) rfl (by kernel_rfl) (by kernel_rfl) (by kernel_rfl) (fun _ _ _ h => h) (Or.inl ⟨by rfl, ?_⟩) (by assumption) ?_
    rotate_left
    · (intro w hSw; (try dsimp only at hSw); go_simp <;> with_reducible rfl)
    (try simp only [Act.put, List.setIfInBounds_toArray, List.set_cons_zero, List.set_cons_succ])
    refine wpAnyH_take (i := 7) (v := ?_) rfl (by kernel_rfl) (by kernel_rfl) (by kernel_rfl) (fun _ _ _ h => h) (Or.inl ⟨by rfl, ?_⟩) (by assumption) ?_
    rotate_left
    · (intro w hSw; (try dsimp only at hSw); go_simp <;> with_reducible rfl)
    (try simp only [Act.put, List.setIfInBounds_toArray, List.set_cons_zero, List.set_cons_succ])
    refine wpAnyH_take (i := 8) (v := ?_) rfl (by kernel_rfl) (by kernel_rfl) (by kernel_rfl) (fun _ _ _ h => h) (Or.inl ⟨by rfl, ?_⟩) (by assumption) ?_
    rotate_left
    · (intro w hSw; (try dsimp only at hSw); go_simp <;> with_reducible rfl)
    (try simp only [Act.put, List.setIfInBounds_toArray, List.set_cons_zero, List.set_cons_succ])
    refine wpAnyH_take (i := 9) (v := ?_) rfl (by kernel_rfl) (by kernel_rfl) (by kernel_rfl) (fun _ _ _ h => h) (Or.inl ⟨by rfl, ?_⟩) (by assumption) ?_
    rotate_left
    · (intro w hSw; (try dsimp only at hSw); go_simp <;> with_reducible rfl)
    (try simp only [Act.put, List.setIfInBounds_toArray, List.set_cons_zero, List.set_cons_succ])
    refine wpAnyH_take (i := 10) (v := ?_) rfl (by kernel_rfl) (by kernel_rfl) (by kernel_rfl) (fun _ _ _ h => h) (Or.inl ⟨by rfl, ?_⟩) (by assumption) ?_
    rotate_left
    · (intro w hSw; (try dsimp only at hSw); go_simp <;> with_reducible rfl)
    (try simp only [Act.put, List.setIfInBounds_toArray, List.set_cons_zero, List.set_cons_succ])
    refine wpAnyH_take (i := 11) (v := ?_) rfl (by kernel_rfl) (by kernel_rfl) (by kernel_rfl) (fun _ _ _ h => h) (Or.inl ⟨by rfl, ?_⟩) (by assumption) ?_
    rotate_left
    · (intro w hSw; (try dsimp only at hSw); go_simp <;> with_reducible rfl)
    (try simp only [Act.put, List.setIfInBounds_toArray, List.set_cons_zero, List.set_cons_succ])
    refine wpAnyH_take (i := 14) (v := ?_) rfl (by kernel_rfl) (by kernel_rfl) (by kernel_rfl) (fun _ _ _ h => h) (Or.inl ⟨by rfl, ?_⟩) (by assumption) ?_
    rotate_left
    · (intro w hSw; (try dsimp only at hSw); go_simp <;> with_reducible rfl)
    (try simp only [Act.put, List.setIfInBounds_toArray, List.set_cons_zero, List.set_cons_succ])
    refine wpAnyH_ready (rs := [5, 12, 15]) (by kernel_rfl) (by simp) ?_
    refine AllReadyH.cons rfl (fun K hK => ?_) ?_
    · go_simp
      refine hK.out _ _ ?_ (fun hHeld => ?_)
      · (try dsimp only); (first | exact S0.out | exact S1.out | exact S2.out | exact S3.out | exact S4.out | exact S5.out | exact S6.out | exact S7.out | exact S8.out | exact S9.out | exact S10.out | exact S11.out | exact S12.out | exact S13.out | exact S14.out)
      clear hK K
      (try simp only [Act.put, List.setIfInBounds_toArray, List.set_cons_zero, List.set_cons_succ])
      refine wpAnyH_ready (rs := [12, 15]) (by kernel_rfl) (by simp) ?_
      refine AllReadyH.cons rfl (fun K hK => ?_) ?_
      · go_simp
        refine hK.out _ _ ?_ (fun hHeld => ?_)
        · (try dsimp only); (first | exact S0.out | exact S1.out | exact S2.out | exact S3.out | exact S4.out | exact S5.out | exact S6.out | exact S7.out | exact S8.out | exact S9.out | exact S10.out | exact S11.out | exact S12.out | exact S13.out | exact S14.out)
        clear hK K
        (try simp only [Act.put, List.setIfInBounds_toArray, List.set_cons_zero, List.set_cons_succ])
        refine wpAnyH_ready (rs := [13, 15]) (by kernel_rfl) (by simp) ?_
        refine AllReadyH.cons rfl (fun K hK => ?_) ?_
        · go_simp
          refine hK.out _ _ ?_ (fun hHeld => ?_)
          · (try dsimp only); (first | exact S0.out | exact S1.out | exact S2.out | exact S3.out | exact S4.out | exact S5.out | exact S6.out | exact S7.out | exact S8.out | exact S9.out | exact S10.out | exact S11.out | exact S12.out | exact S13.out | exact S14.out)
          clear hK K
          (try simp only [Act.put, List.setIfInBounds_toArray, List.set_cons_zero, List.set_cons_succ])
          refine wpAnyH_ready (rs := [15]) (by kernel_rfl) (by simp) ?_
          refine AllReadyH.cons rfl (fun K hK => ?_) ?_
          · go_simp
            refine hK.out _ _ ?_ (fun hHeld => ?_)
            · (try dsimp only); (first | exact S0.out | exact S1.out | exact S2.out | exact S3.out | exact S4.out | exact S5.out | exact S6.out | exact S7.out | exact S8.out | exact S9.out | exact S10.out | exact S11.out | exact S12.out | exact S13.out | exact S14.out)
            clear hK K
            (try simp only [Act.put, List.setIfInBounds_toArray, List.set_cons_zero, List.set_cons_succ])
            refine wpAnyH_ready (rs := [16]) (by kernel_rfl) (by simp) ?_
            refine AllReadyH.cons rfl (fun K hK => ?_) ?_
            · go_simp
              refine hK.out _ _ ?_ (fun hHeld => ?_)
              · (try dsimp only); (first | exact S0.out | exact S1.out | exact S2.out | exact S3.out | exact S4.out | exact S5.out | exact S6.out | exact S7.out | exact S8.out | exact S9.out | exact S10.out | exact S11.out | exact S12.out | exact S13.out | exact S14.out)
              clear hK K
              (try simp only [Act.put, List.setIfInBounds_toArray, List.set_cons_zero, List.set_cons_succ])
              refine wpAnyH_take (i := 17) (v := ?_) rfl (by kernel_rfl) (by kernel_rfl) (by kernel_rfl) (fun _ _ _ h => h) (Or.inl ⟨by rfl, ?_⟩) (by assumption) ?_
              rotate_left
              · (intro w hSw; (try dsimp only at hSw); go_simp <;> with_reducible rfl)
              (try simp only [Act.put, List.setIfInBounds_toArray, List.set_cons_zero, List.set_cons_succ])
              refine wpAnyH_ready (rs := [18]) (by kernel_rfl) (by simp) ?_
              refine AllReadyH.cons rfl (fun K hK => ?_) ?_
              · go_simp
                refine hK.out _ _ ?_ (fun hHeld => ?_)
                · (try dsimp only); (first | exact S0.out | exact S1.out | exact S2.out | exact S3.out | exact S4.out | exact S5.out | exact S6.out | exact S7.out | exact S8.out | exact S9.out | exact S10.out | exact S11.out | exact S12.out | exact S13.out | exact S14.out)
                clear hK K
                (try simp only [Act.put, List.setIfInBounds_toArray, List.set_cons_zero, List.set_cons_succ])
                refine wpAnyH_done (by kernel_rfl) ?_ _
                (go_wp2_with fail)
                (go_meet)
                (first | exact HTA.out | exact HTB.out | exact HTC.out)
              exact AllReadyH.nil
            exact AllReadyH.nil
          exact AllReadyH.nil
        refine AllReadyH.cons rfl (fun K hK => ?_) ?_
        · go_simp
          refine hK.out _ _ ?_ (fun hHeld => ?_)
          · (try dsimp only); (first | exact S0.out | exact S1.out | exact S2.out | exact S3.out | exact S4.out | exact S5.out | exact S6.out | exact S7.out | exact S8.out | exact S9.out | exact S10.out | exact S11.out | exact S12.out | exact S13.out | exact S14.out)
          clear hK K
          (try simp only [Act.put, List.setIfInBounds_toArray, List.set_cons_zero, List.set_cons_succ])
          refine wpAnyH_ready (rs := [13]) (by kernel_rfl) (by simp) ?_
          refine AllReadyH.cons rfl (fun K hK => ?_) ?_
          · go_simp
            refine hK.out _ _ ?_ (fun hHeld => ?_)
            · (try dsimp only); (first | exact S0.out | exact S1.out | exact S2.out | exact S3.out | exact S4.out | exact S5.out | exact S6.out | exact S7.out | exact S8.out | exact S9.out | exact S10.out | exact S11.out | exact S12.out | exact S13.out | exact S14.out)
            clear hK K
            (try simp only [Act.put, List.setIfInBounds_toArray, List.set_cons_zero, List.set_cons_succ])
            refine wpAnyH_ready (rs := [16]) (by kernel_rfl) (by simp) ?_
            refine AllReadyH.cons rfl (fun K hK => ?_) ?_
            · go_simp
              refine hK.out _ _ ?_ (fun hHeld => ?_)
              · (try dsimp only); (first | exact S0.out | exact S1.out | exact S2.out | exact S3.out | exact S4.out | exact S5.out | exact S6.out | exact S7.out | exact S8.out | exact S9.out | exact S10.out | exact S11.out | exact S12.out | exact S13.out | exact S14.out)
              clear hK K
              (try simp only [Act.put, List.setIfInBounds_toArray, List.set_cons_zero, List.set_cons_succ])
              refine wpAnyH_take (i := 17) (v := ?_) rfl (by kernel_rfl) (by kernel_rfl) (by kernel_rfl) (fun _ _ _ h => h) (Or.inl ⟨by rfl, ?_⟩) (by assumption) ?_
              rotate_left
              · (intro w hSw; (try dsimp only at hSw); go_simp <;> with_reducible rfl)
              (try simp only [Act.put, List.setIfInBounds_toArray, List.set_cons_zero, List.set_cons_succ])
              refine wpAnyH_ready (rs := [18]) (by kernel_rfl) (by simp) ?_
              refine AllReadyH.cons rfl (fun K hK => ?_) ?_
              · go_simp
                refine hK.out _ _ ?_ (fun hHeld => ?_)
                · (try dsimp only); (first | exact S0.out | exact S1.out | exact S2.out | exact S3.out | exact S4.out | exact S5.out | exact S6.out | exact S7.out | exact S8.out | exact S9.out | exact S10.out | exact S11.out | exact S12.out | exact S13.out | exact S14.out)
                clear hK K
                (try simp only [Act.put, List.setIfInBounds_toArray, List.set_cons_zero, List.set_cons_succ])
                refine wpAnyH_done (by kernel_rfl) ?_ _
                (go_wp2_with fail)
                (go_meet)
                (first | exact HTA.out | exact HTB.out | exact HTC.out)
              exact AllReadyH.nil
            exact AllReadyH.nil
          exact AllReadyH.nil
        exact AllReadyH.nil
      refine AllReadyH.cons rfl (fun K hK => ?_) ?_
      · go_simp
        refine hK.out _ _ ?_ (fun hHeld => ?_)
        · (try dsimp only); (first | exact S0.out | exact S1.out | exact S2.out | exact S3.out | exact S4.out | exact S5.out | exact S6.out | exact S7.out | exact S8.out | exact S9.out | exact S10.out | exact S11.out | exact S12.out | exact S13.out | exact S14.out)
        clear hK K
        (try simp only [Act.put, List.setIfInBounds_toArray, List.set_cons_zero, List.set_cons_succ])
        refine wpAnyH_ready (rs := [12]) (by kernel_rfl) (by simp) ?_
        refine AllReadyH.cons rfl (fun K hK => ?_) ?_
        · go_simp
          refine hK.out _ _ ?_ (fun hHeld => ?_)
          · (try dsimp only); (first | exact S0.out | exact S1.out | exact S2.out | exact S3.out | exact S4.out | exact S5.out | exact S6.out | exact S7.out | exact S8.out | exact S9.out | exact S10.out | exact S11.out | exact S12.out | exact S13.out | exact S14.out)
          clear hK K
          (try simp only [Act.put, List.setIfInBounds_toArray, List.set_cons_zero, List.set_cons_succ])
          refine wpAnyH_ready (rs := [13]) (by kernel_rfl) (by simp) ?_
          refine AllReadyH.cons rfl (fun K hK => ?_) ?_
          · go_simp
            refine hK.out _ _ ?_ (fun hHeld => ?_)
            · (try dsimp only); (first | exact S0.out | exact S1.out | exact S2.out | exact S3.out | exact S4.out | exact S5.out | exact S6.out | exact S7.out | exact S8.out | exact S9.out | exact S10.out | exact S11.out | exact S12.out | exact S13.out | exact S14.out)
            clear hK K
            (try simp only [Act.put, List.setIfInBounds_toArray, List.set_cons_zero, List.set_cons_succ])
            refine wpAnyH_ready (rs := [16]) (by kernel_rfl) (by simp) ?_
            refine AllReadyH.cons rfl (fun K hK => ?_) ?_
            · go_simp
              refine hK.out _ _ ?_ (fun hHeld => ?_)
              · (try dsimp only); (first | exact S0.out | exact S1.out | exact S2.out | exact S3.out | exact S4.out | exact S5.out | exact S6.out | exact S7.out | exact S8.out | exact S9.out | exact S10.out | exact S11.out | exact S12.out | exact S13.out | exact S14.out)
              clear hK K
              (try simp only [Act.put, List.setIfInBounds_toArray, List.set_cons_zero, List.set_cons_succ])
              refine wpAnyH_take (i := 17) (v := ?_) rfl (by kernel_rfl) (by kernel_rfl) (by kernel_rfl) (fun _ _ _ h => h) (Or.inl ⟨by rfl, ?_⟩) (by assumption) ?_
              rotate_left
              · (intro w hSw; (try dsimp only at hSw); go_simp <;> with_reducible rfl)
              (try simp only [Act.put, List.setIfInBounds_toArray, List.set_cons_zero, List.set_cons_succ])
              refine wpAnyH_ready (rs := [18]) (by kernel_rfl) (by simp) ?_
              refine AllReadyH.cons rfl (fun K hK => ?_) ?_
              · go_simp
                refine hK.out _ _ ?_ (fun hHeld => ?_)
                · (try dsimp only); (first | exact S0.out | exact S1.out | exact S2.out | exact S3.out | exact S4.out | exact S5.out | exact S6.out | exact S7.out | exact S8.out | exact S9.out | exact S10.out | exact S11.out | exact S12.out | exact S13.out | exact S14.out)
                clear hK K
                (try simp only [Act.put, List.setIfInBounds_toArray, List.set_cons_zero, List.set_cons_succ])
                refine wpAnyH_done (by kernel_rfl) ?_ _
                (go_wp2_with fail)
                (go_meet)
                (first | exact HTA.out | exact HTB.out | exact HTC.out)
              exact AllReadyH.nil
            exact AllReadyH.nil
          exact AllReadyH.nil
        exact AllReadyH.nil
      exact AllReadyH.nil
    refine AllReadyH.cons rfl (fun K hK => ?_) ?_
    · go_simp
      refine hK.out _ _ ?_ (fun hHeld => ?_)
      · (try dsimp only); (first | exact S0.out | exact S1.out | exact S2.out | exact S3.out | exact S4.out | exact S5.out | exact S6.out | exact S7.out | exact S8.out | exact S9.out | exact S10.out | exact S11.out | exact S12.out | exact S13.out | exact S14.out)
      clear hK K
      (try simp only [Act.put, List.setIfInBounds_toArray, List.set_cons_zero, List.set_cons_succ])
      refine wpAnyH_ready (rs := [5, 15]) (by kernel_rfl) (by simp) ?_
      refine AllReadyH.cons rfl (fun K hK => ?_) ?_
      · go_simp
        refine hK.out _ _ ?_ (fun hHeld => ?_)
        · (try dsimp only); (first | exact S0.out | exact S1.out | exact S2.out | exact S3.out | exact S4.out | exact S5.out | exact S6.out | exact S7.out | exact S8.out | exact S9.out | exact S10.out | exact S11.out | exact S12.out | exact S13.out | exact S14.out)
        clear hK K
        (try simp only [Act.put, List.setIfInBounds_toArray, List.set_cons_zero, List.set_cons_succ])
        refine wpAnyH_ready (rs := [13, 15]) (by kernel_rfl) (by simp) ?_
        refine AllReadyH.cons rfl (fun K hK => ?_) ?_
        · go_simp
          refine hK.out _ _ ?_ (fun hHeld => ?_)
          · (try dsimp only); (first | exact S0.out | exact S1.out | exact S2.out | exact S3.out | exact S4.out | exact S5.out | exact S6.out | exact S7.out | exact S8.out | exact S9.out | exact S10.out | exact S11.out | exact S12.out | exact S13.out | exact S14.out)
          clear hK K
          (try simp only [Act.put, List.setIfInBounds_toArray, List.set_cons_zero, List.set_cons_succ])
          refine wpAnyH_ready (rs := [15]) (by kernel_rfl) (by simp) ?_
          refine AllReadyH.cons rfl (fun K hK => ?_) ?_
          · go_simp
            refine hK.out _ _ ?_ (fun hHeld => ?_)
            · (try dsimp only); (first | exact S0.out | exact S1.out | exact S2.out | exact S3.out | exact S4.out | exact S5.out | exact S6.out | exact S7.out | exact S8.out | exact S9.out | exact S10.out | exact S11.out | exact S12.out | exact S13.out | exact S14.out)
            clear hK K
            (try simp only [Act.put, List.setIfInBounds_toArray, List.set_cons_zero, List.set_cons_succ])
            refine wpAnyH_ready (rs := [16]) (by kernel_rfl) (by simp) ?_
            refine AllReadyH.cons rfl (fun K hK => ?_) ?_
            · go_simp
              refine hK.out _ _ ?_ (fun hHeld => ?_)
              · (try dsimp only); (first | exact S0.out | exact S1.out | exact S2.out | exact S3.out | exact S4.out | exact S5.out | exact S6.out | exact S7.out | exact S8.out | exact S9.out | exact S10.out | exact S11.out | exact S12.out | exact S13.out | exact S14.out)
              clear hK K
              (try simp only [Act.put, List.setIfInBounds_toArray, List.set_cons_zero, List.set_cons_succ])
              refine wpAnyH_take (i := 17) (v := ?_) rfl (by kernel_rfl) (by kernel_rfl) (by kernel_rfl) (fun _ _ _ h => h) (Or.inl ⟨by rfl, ?_⟩) (by assumption) ?_
              rotate_left
              · (intro w hSw; (try dsimp only at hSw); go_simp <;> with_reducible rfl)
              (try simp only [Act.put, List.setIfInBounds_toArray, List.set_cons_zero, List.set_cons_succ])
              refine wpAnyH_ready (rs := [18]) (by kernel_rfl) (by simp) ?_
              refine AllReadyH.cons rfl (fun K hK => ?_) ?_
              · go_simp
                refine hK.out _ _ ?_ (fun hHeld => ?_)
                · (try dsimp only); (first | exact S0.out | exact S1.out | exact S2.out | exact S3.out | exact S4.out | exact S5.out | exact S6.out | exact S7.out | exact S8.out | exact S9.out | exact S10.out | exact S11.out | exact S12.out | exact S13.out | exact S14.out)
                clear hK K
                (try simp only [Act.put, List.setIfInBounds_toArray, List.set_cons_zero, List.set_cons_succ])
                refine wpAnyH_done (by kernel_rfl) ?_ _
                (go_wp2_with fail)
                (go_meet)
                (first | exact HTA.out | exact HTB.out | exact HTC.out)
              exact AllReadyH.nil
            exact AllReadyH.nil
          exact AllReadyH.nil
        refine AllReadyH.cons rfl (fun K hK => ?_) ?_
        · go_simp
          refine hK.out _ _ ?_ (fun hHeld => ?_)
          · (try dsimp only); (first | exact S0.out | exact S1.out | exact S2.out | exact S3.out | exact S4.out | exact S5.out | exact S6.out | exact S7.out | exact S8.out | exact S9.out | exact S10.out | exact S11.out | exact S12.out | exact S13.out | exact S14.out)
          clear hK K
          (try simp only [Act.put, List.setIfInBounds_toArray, List.set_cons_zero, List.set_cons_succ])
          refine wpAnyH_ready (rs := [13]) (by kernel_rfl) (by simp) ?_
          refine AllReadyH.cons rfl (fun K hK => ?_) ?_
          · go_simp
            refine hK.out _ _ ?_ (fun hHeld => ?_)
            · (try dsimp only); (first | exact S0.out | exact S1.out | exact S2.out | exact S3.out | exact S4.out | exact S5.out | exact S6.out | exact S7.out | exact S8.out | exact S9.out | exact S10.out | exact S11.out | exact S12.out | exact S13.out | exact S14.out)
            clear hK K
            (try simp only [Act.put, List.setIfInBounds_toArray, List.set_cons_zero, List.set_cons_succ])
            refine wpAnyH_ready (rs := [16]) (by kernel_rfl) (by simp) ?_
            refine AllReadyH.cons rfl (fun K hK => ?_) ?_
            · go_simp
              refine hK.out _ _ ?_ (fun hHeld => ?_)
              · (try dsimp only); (first | exact S0.out | exact S1.out | exact S2.out | exact S3.out | exact S4.out | exact S5.out | exact S6.out | exact S7.out | exact S8.out | exact S9.out | exact S10.out | exact S11.out | exact S12.out | exact S13.out | exact S14.out)
              clear hK K
              (try simp only [Act.put, List.setIfInBounds_toArray, List.set_cons_zero, List.set_cons_succ])
              refine wpAnyH_take (i := 17) (v := ?_) rfl (by kernel_rfl) (by kernel_rfl) (by kernel_rfl) (fun _ _ _ h => h) (Or.inl ⟨by rfl, ?_⟩) (by assumption) ?_
              rotate_left
              · (intro w hSw; (try dsimp only at hSw); go_simp <;> with_reducible rfl)
              (try simp only [Act.put, List.setIfInBounds_toArray, List.set_cons_zero, List.set_cons_succ])
              refine wpAnyH_ready (rs := [18]) (by kernel_rfl) (by simp) ?_
              refine AllReadyH.cons rfl (fun K hK => ?_) ?_
              · go_simp
                refine hK.out _ _ ?_ (fun hHeld => ?_)
                · (try dsimp only); (first | exact S0.out | exact S1.out | exact S2.out | exact S3.out | exact S4.out | exact S5.out | exact S6.out | exact S7.out | exact S8.out | exact S9.out | exact S10.out | exact S11.out | exact S12.out | exact S13.out | exact S14.out)
                clear hK K
                (try simp only [Act.put, List.setIfInBounds_toArray, List.set_cons_zero, List.set_cons_succ])
                refine wpAnyH_done (by kernel_rfl) ?_ _
                (go_wp2_with fail)
                (go_meet)
                (first | exact HTA.out | exact HTB.out | exact HTC.out)
              exact AllReadyH.nil
            exact AllReadyH.nil
          exact AllReadyH.nil
        exact AllReadyH.nil
      refine AllReadyH.cons rfl (fun K hK => ?_) ?_
      · go_simp
        refine hK.out _ _ ?_ (fun hHeld => ?_)
        · (try dsimp only); (first | exact S0.out | exact S1.out | exact S2.out | exact S3.out | exact S4.out | exact S5.out | exact S6.out | exact S7.out | exact S8.out | exact S9.out | exact S10.out | exact S11.out | exact S12.out | exact S13.out | exact S14.out)
        clear hK K
        (try simp only [Act.put, List.setIfInBounds_toArray, List.set_cons_zero, List.set_cons_succ])
        refine wpAnyH_ready (rs := [5]) (by kernel_rfl) (by simp) ?_
        refine AllReadyH.cons rfl (fun K hK => ?_) ?_
        · go_simp
          refine hK.out _ _ ?_ (fun hHeld => ?_)
          · (try dsimp only); (first | exact S0.out | exact S1.out | exact S2.out | exact S3.out | exact S4.out | exact S5.out | exact S6.out | exact S7.out | exact S8.out | exact S9.out | exact S10.out | exact S11.out | exact S12.out | exact S13.out | exact S14.out)
          clear hK K
          (try simp only [Act.put, List.setIfInBounds_toArray, List.set_cons_zero, List.set_cons_succ])
          refine wpAnyH_ready (rs := [13]) (by kernel_rfl) (by simp) ?_
          refine AllReadyH.cons rfl (fun K hK => ?_) ?_
          · go_simp
            refine hK.out _ _ ?_ (fun hHeld => ?_)
            · (try dsimp only); (first | exact S0.out | exact S1.out | exact S2.out | exact S3.out | exact S4.out | exact S5.out | exact S6.out | exact S7.out | exact S8.out | exact S9.out | exact S10.out | exact S11.out | exact S12.out | exact S13.out | exact S14.out)
            clear hK K
            (try simp only [Act.put, List.setIfInBounds_toArray, List.set_cons_zero, List.set_cons_succ])
            refine wpAnyH_ready (rs := [16]) (by kernel_rfl) (by simp) ?_
            refine AllReadyH.cons rfl (fun K hK => ?_) ?_
            · go_simp
              refine hK.out _ _ ?_ (fun hHeld => ?_)
              · (try dsimp only); (first | exact S0.out | exact S1.out | exact S2.out | exact S3.out | exact S4.out | exact S5.out | exact S6.out | exact S7.out | exact S8.out | exact S9.out | exact S10.out | exact S11.out | exact S12.out | exact S13.out | exact S14.out)
              clear hK K
              (try simp only [Act.put, List.setIfInBounds_toArray, List.set_cons_zero, List.set_cons_succ])
              refine wpAnyH_take (i := 17) (v := ?_) rfl (by kernel_rfl) (by kernel_rfl) (by kernel_rfl) (fun _ _ _ h => h) (Or.inl ⟨by rfl, ?_⟩) (by assumption) ?_
              rotate_left
              · (intro w hSw; (try dsimp only at hSw); go_simp <;> with_reducible rfl)
              (try simp only [Act.put, List.setIfInBounds_toArray, List.set_cons_zero, List.set_cons_succ])
              refine wpAnyH_ready (rs := [18]) (by kernel_rfl) (by simp) ?_
              refine AllReadyH.cons rfl (fun K hK => ?_) ?_
              · go_simp
                refine hK.out _ _ ?_ (fun hHeld => ?_)
                · (try dsimp only); (first | exact S0.out | exact S1.out | exact S2.out | exact S3.out | exact S4.out | exact S5.out | exact S6.out | exact S7.out | exact S8.out | exact S9.out | exact S10.out | exact S11.out | exact S12.out | exact S13.out | exact S14.out)
                clear hK K
                (try simp only [Act.put, List.setIfInBounds_toArray, List.set_cons_zero, List.set_cons_succ])
                refine wpAnyH_done (by kernel_rfl) ?_ _
                (go_wp2_with fail)
                (go_meet)
                (first | exact HTA.out | exact HTB.out | exact HTC.out)
              exact AllReadyH.nil
            exact AllReadyH.nil
          exact AllReadyH.nil
        exact AllReadyH.nil
      exact AllReadyH.nil
    refine AllReadyH.cons rfl (fun K hK => ?_) ?_
    · go_simp
      refine hK.out _ _ ?_ (fun hHeld => ?_)
      · (try dsimp only); (first | exact S0.out | exact S1.out | exact S2.out | exact S3.out | exact S4.out | exact S5.out | exact S6.out | exact S7.out | exact S8.out | exact S9.out | exact S10.out | exact S11.out | exact S12.out | exact S13.out | exact S14.out)
      clear hK K
      (try simp only [Act.put, List.setIfInBounds_toArray, List.set_cons_zero, List.set_cons_succ])
      refine wpAnyH_ready (rs := [5, 12]) (by kernel_rfl) (by simp) ?_
      refine AllReadyH.cons rfl (fun K hK => ?_) ?_
      · go_simp
        refine hK.out _ _ ?_ (fun hHeld => ?_)
        · (try dsimp only); (first | exact S0.out | exact S1.out | exact S2.out | exact S3.out | exact S4.out | exact S5.out | exact S6.out | exact S7.out | exact S8.out | exact S9.out | exact S10.out | exact S11.out | exact S12.out | exact S13.out | exact S14.out)
        clear hK K
        (try simp only [Act.put, List.setIfInBounds_toArray, List.set_cons_zero, List.set_cons_succ])
        refine wpAnyH_ready (rs := [12]) (by kernel_rfl) (by simp) ?_
        refine AllReadyH.cons rfl (fun K hK => ?_) ?_
        · go_simp
          refine hK.out _ _ ?_ (fun hHeld => ?_)
          · (try dsimp only); (first | exact S0.out | exact S1.out | exact S2.out | exact S3.out | exact S4.out | exact S5.out | exact S6.out | exact S7.out | exact S8.out | exact S9.out | exact S10.out | exact S11.out | exact S12.out | exact S13.out | exact S14.out)
          clear hK K
          (try simp only [Act.put, List.setIfInBounds_toArray, List.set_cons_zero, List.set_cons_succ])
          refine wpAnyH_ready (rs := [13]) (by kernel_rfl) (by simp) ?_
          refine AllReadyH.cons rfl (fun K hK => ?_) ?_
          · go_simp
            refine hK.out _ _ ?_ (fun hHeld => ?_)
            · (try dsimp only); (first | exact S0.out | exact S1.out | exact S2.out | exact S3.out | exact S4.out | exact S5.out | exact S6.out | exact S7.out | exact S8.out | exact S9.out | exact S10.out | exact S11.out | exact S12.out | exact S13.out | exact S14.out)
            clear hK K
            (try simp only [Act.put, List.setIfInBounds_toArray, List.set_cons_zero, List.set_cons_succ])
            refine wpAnyH_ready (rs := [16]) (by kernel_rfl) (by simp) ?_
            refine AllReadyH.cons rfl (fun K hK => ?_) ?_
            · go_simp
              refine hK.out _ _ ?_ (fun hHeld => ?_)
              · (try dsimp only); (first | exact S0.out | exact S1.out | exact S2.out | exact S3.out | exact S4.out | exact S5.out | exact S6.out | exact S7.out | exact S8.out | exact S9.out | exact S10.out | exact S11.out | exact S12.out | exact S13.out | exact S14.out)
              clear hK K
              (try simp only [Act.put, List.setIfInBounds_toArray, List.set_cons_zero, List.set_cons_succ])
              refine wpAnyH_take (i := 17) (v := ?_) rfl (by kernel_rfl) (by kernel_rfl) (by kernel_rfl) (fun _ _ _ h => h) (Or.inl ⟨by rfl, ?_⟩) (by assumption) ?_
              rotate_left
              · (intro w hSw; (try dsimp only at hSw); go_simp <;> with_reducible rfl)
              (try simp only [Act.put, List.setIfInBounds_toArray, List.set_cons_zero, List.set_cons_succ])
              refine wpAnyH_ready (rs := [18]) (by kernel_rfl) (by simp) ?_
              refine AllReadyH.cons rfl (fun K hK => ?_) ?_
              · go_simp
                refine hK.out _ _ ?_ (fun hHeld => ?_)
                · (try dsimp only); (first | exact S0.out | exact S1.out | exact S2.out | exact S3.out | exact S4.out | exact S5.out | exact S6.out | exact S7.out | exact S8.out | exact S9.out | exact S10.out | exact S11.out | exact S12.out | exact S13.out | exact S14.out)
                clear hK K
                (try simp only [Act.put, List.setIfInBounds_toArray, List.set_cons_zero, List.set_cons_succ])
                refine wpAnyH_done (by kernel_rfl) ?_ _
                (go_wp2_with fail)
                (go_meet)
                (first | exact HTA.out | exact HTB.out | exact HTC.out)
              exact AllReadyH.nil
            exact AllReadyH.nil
          exact AllReadyH.nil
        exact AllReadyH.nil
      refine AllReadyH.cons rfl (fun K hK => ?_) ?_
      · go_simp
        refine hK.out _ _ ?_ (fun hHeld => ?_)
        · (try dsimp only); (first | exact S0.out | exact S1.out | exact S2.out | exact S3.out | exact S4.out | exact S5.out | exact S6.out | exact S7.out | exact S8.out | exact S9.out | exact S10.out | exact S11.out | exact S12.out | exact S13.out | exact S14.out)
        clear hK K
        (try simp only [Act.put, List.setIfInBounds_toArray, List.set_cons_zero, List.set_cons_succ])
        refine wpAnyH_ready (rs := [5]) (by kernel_rfl) (by simp) ?_
        refine AllReadyH.cons rfl (fun K hK => ?_) ?_
        · go_simp
          refine hK.out _ _ ?_ (fun hHeld => ?_)
          · (try dsimp only); (first | exact S0.out | exact S1.out | exact S2.out | exact S3.out | exact S4.out | exact S5.out | exact S6.out | exact S7.out | exact S8.out | exact S9.out | exact S10.out | exact S11.out | exact S12.out | exact S13.out | exact S14.out)
          clear hK K
          (try simp only [Act.put, List.setIfInBounds_toArray, List.set_cons_zero, List.set_cons_succ])
          refine wpAnyH_ready (rs := [13]) (by kernel_rfl) (by simp) ?_
          refine AllReadyH.cons rfl (fun K hK => ?_) ?_
          · go_simp
            refine hK.out _ _ ?_ (fun hHeld => ?_)
            · (try dsimp only); (first | exact S0.out | exact S1.out | exact S2.out | exact S3.out | exact S4.out | exact S5.out | exact S6.out | exact S7.out | exact S8.out | exact S9.out | exact S10.out | exact S11.out | exact S12.out | exact S13.out | exact S14.out)
            clear hK K
            (try simp only [Act.put, List.setIfInBounds_toArray, List.set_cons_zero, List.set_cons_succ])
            refine wpAnyH_ready (rs := [16]) (by kernel_rfl) (by simp) ?_
            refine AllReadyH.cons rfl (fun K hK => ?_) ?_
            · go_simp
              refine hK.out _ _ ?_ (fun hHeld => ?_)
              · (try dsimp only); (first | exact S0.out | exact S1.out | exact S2.out | exact S3.out | exact S4.out | exact S5.out | exact S6.out | exact S7.out | exact S8.out | exact S9.out | exact S10.out | exact S11.out | exact S12.out | exact S13.out | exact S14.out)
              clear hK K
              (try simp only [Act.put, List.setIfInBounds_toArray, List.set_cons_zero, List.set_cons_succ])
              refine wpAnyH_take (i := 17) (v := ?_) rfl (by kernel_rfl) (by kernel_rfl) (by kernel_rfl) (fun _ _ _ h => h) (Or.inl ⟨by rfl, ?_⟩) (by assumption) ?_
              rotate_left
              · (intro w hSw; (try dsimp only at hSw); go_simp <;> with_reducible rfl)
              (try simp only [Act.put, List.setIfInBounds_toArray, List.set_cons_zero, List.set_cons_succ])
              refine wpAnyH_ready (rs := [18]) (by kernel_rfl) (by simp) ?_
              refine AllReadyH.cons rfl (fun K hK => ?_) ?_
              · go_simp
                refine hK.out _ _ ?_ (fun hHeld => ?_)
                · (try dsimp only); (first | exact S0.out | exact S1.out | exact S2.out | exact S3.out | exact S4.out | exact S5.out | exact S6.out | exact S7.out | exact S8.out | exact S9.out | exact S10.out | exact S11.out | exact S12.out | exact S13.out | exact S14.out)
                clear hK K
                (try simp only [Act.put, List.setIfInBounds_toArray, List.set_cons_zero, List.set_cons_succ])
                refine wpAnyH_done (by kernel_rfl) ?_ _
                (go_wp2_with fail)
                (go_meet)
                (first | exact HTA.out | exact HTB.out | exact HTC.out)
              exact AllReadyH.nil
            exact AllReadyH.nil
          exact AllReadyH.nil
        exact AllReadyH.nil
      exact AllReadyH.nil
    exact AllReadyH.nil
    -- END
  case rest =>
  have HC := Lib.hid hcut
  go_wp2_with fail
  go_ret
  exact ⟨rfl, HC.out⟩
end Go.Proofs.Ytldlogmjkbhomaa.Rng
