/- The contracts of package spans' TakeAligned, Take and New. -/
import Derived.Test.YtldlogmjkbhomaaSpaT
set_option linter.unusedSimpArgs false
namespace Go.Proofs.Ytldlogmjkbhomaa.Spa
open Go.RowKit Go.Proofs.Ytldlogmjkbhomaa.Aid
/-- What a call that writes leaves. -/
def Spw (w : World) (p : Nat) (F : List Nat) (P : Nat) (xs' : List Rn) (w' : World) : Prop := ∃ F', SpAt w' p F' P xs' ∧ Kept F w w' ∧ ∀ x ∈ F', x ∈ F ∨ w.heap.size ≤ x
theorem spw_same {w w' : World} {p P : Nat} {F : List Nat} {xs : List Rn} (h : SpAt w p F P xs) (k : Below w.heap.size w w') : Spw w p F P xs w' := ⟨F, h.below k, Kept.of_below k _, fun _ hx => .inl hx⟩
theorem spw_of {w wm w6 : World} {p P g c g' c' : Nat} {F : List Nat} {xs ys : List Rn} (h : SpP w p F P xs (.slice (some ⟨g, 0, none⟩) xs.length c)) (hok : OkS P ys) (hb : Below w.heap.size w wm) (hR : Recs encR 3 w6 RT g' c' ys) (hg : g' = g ∨ wm.heap.size ≤ g') (hk : Kept [g] wm w6) :
    Spw w p F P ys (w6.setCell ⟨p, 1, none⟩ (.slice (some ⟨g', 0, none⟩) ys.length c')) := by
  obtain ⟨o1, o2⟩ := h.own g rfl
  have hz := hb.size
  have hz6 := hk.size
  have hpl := h.head.lt
  have hgl : g < w.heap.size := h.flt g o1
  have hpg : p ≠ g' := by rcases hg with e | e <;> omega
  have hh : Blk w6 p #[.int .i64 P, .slice (some ⟨g, 0, none⟩) xs.length c] ST := (h.head.below hb).kept hk (by simpa using Ne.symm o2)
  refine ⟨g' :: F, ⟨hok, _, ⟨hh.set 1 _, .inr ⟨g', c', rfl, hR.other (a := ⟨p, 1, none⟩) (Ne.symm hpg) _⟩, fun x hx => ?_, by simp [h.ins], fun x hx => ?_⟩⟩, ?_, fun x hx => ?_⟩
  · have : g' = x := Option.some.inj (show some g' = some x from hx)
    subst this
    exact ⟨by simp, Ne.symm hpg⟩
  · have h2 := hR.lt
    rcases List.mem_cons.1 hx with e | e
    · rw [e]; simpa using h2
    · have := h.flt x e
      simp only [World.size_setCell]
      omega
  · refine ((Kept.of_below hb F).trans (hk.mono fun x hx => ?_)).setCell (.inl h.ins) _
    simp at hx
    rw [hx]; exact o1
  · rcases List.mem_cons.1 hx with e | e
    · subst e
      rcases hg with e | e
      · exact .inl (e ▸ o1)
      · exact .inr (by omega)
    · exact .inl e
theorem takeS_none {n a : Int} {xs : List Rn} (h : bestA n a xs = none) : takeS n a xs = xs ∧ takeAt n a xs = -1 ∧ takeE n a xs = if rightR n a = true then 13 else 11 := by
  unfold takeS takeAt takeE
  rw [h]
  exact ⟨rfl, rfl, rfl⟩
theorem full_ne {r : Rn} {n at_ : Nat} (hn : 1 ≤ n) : full (parts r n at_) ≠ [] := by
  rw [full_parts hn]
  simp
section
variable (w : World) (p : Nat) (F : List Nat) (P : Nat) (xs : List Rn) (h : SpAt w p F P xs)
include h
set_option maxHeartbeats 4000000 in
set_option maxRecDepth 8000 in
theorem take_calls (n a : Int) : Calls Try.prog 57 #[.pointer (some ⟨p, 0, none⟩), .int .i64 n, .int .i64 a] w fun e w' => e = .returned (.tuple #[.int .i64 (takeAt n a xs), .int .i64 (takeE n a xs)]) ∧ Spw w p F P (takeS n a xs) w' := by
  have HR := Lib.hid (right_calls w n a)
  have HH := Lib.hid h
  cases hr : rightR n a with
  | false =>
    obtain ⟨e1, e2, e3⟩ := takeS_none (show bestA n a xs = none by unfold bestA; rw [hr]; rfl)
    rw [hr] at HR
    rw [e1, e2, e3, hr]
    clear hr h e1 e2 e3
    go_enter Try.func57, Try.ntmps57
    go_wp2_with fail
    refine HR.out.mono ?_
    rintro e w1 ⟨rfl, rfl⟩
    go_wp2_with fail
    go_ret2
    exact ⟨rfl, spw_same HH.out (Below.refl _ _)⟩
  | true =>
    rw [hr] at HR
    have hr' := hr
    unfold rightR at hr'
    simp only [Bool.and_eq_true, decide_eq_true_eq] at hr'
    have HP := Lib.hid (place_calls w p F P xs h n a hr'.2.1 hr'.2.2)
    cases hb : bestT n a.toNat xs xs.length with
    | none =>
      obtain ⟨e1, e2, e3⟩ := takeS_none (show bestA n a xs = none by unfold bestA; rw [hr]; exact hb)
      rw [hb, show idxI none = -1 from rfl] at HP
      rw [e1, e2, e3, hr]
      clear hr h e1 e2 e3 hr' hb
      go_enter Try.func57, Try.ntmps57
      go_wp2_with fail
      refine HR.out.mono ?_
      rintro e w1 ⟨rfl, rfl⟩
      go_wp2_with fail
      refine HP.out.mono ?_
      rintro e w1 ⟨rfl, hb1⟩
      go_wp2_with fail
      go_ret2
      exact ⟨rfl, spw_same HH.out hb1⟩
    | some k =>
      have hbA : bestA n a xs = some k := by unfold bestA; rw [hr]; exact hb
      obtain ⟨hk, hn, ha, ht, f1, f2, f3⟩ := best_facts h.ok hbA
      have hok := take_ok h.ok n a
      have e1 : takeS n a xs = takeX xs k n.toNat (firstR (xs.getD k r0) a.toNat) := by unfold takeS; rw [hbA]
      have e2 : takeAt n a xs = ((firstR (xs.getD k r0) a.toNat : Nat) : Int) := by unfold takeAt; rw [hbA]
      have e3 : takeE n a xs = 0 := by unfold takeE; rw [hbA, hr]; rfl
      rw [hb, show idxI (some k) = (k : Int) from rfl] at HP
      rw [e1] at hok
      rw [e1, e2, e3]
      have hp4 := h.ok.n
      have hL := len_le h.ok
      obtain ⟨hd, hPp⟩ := h.ex
      have HPp := Lib.hid hPp
      obtain ⟨A, c, hdE, hat⟩ := Hdr.open3 hPp.runs
      obtain ⟨g, hAE, _⟩ := hat k hk
      subst hAE
      subst hdE
      have HRx : Recs encR 3 w RT g c xs := by
        rcases hPp.runs with ⟨e, _⟩ | ⟨g2, c2, e, hR⟩
        · cases e
        · injection e with e5 e6 e7
          injection e5 with e5
          injection e5 with e5
          subst e5
          subst e7
          exact hR
      have HRr := Lib.hid HRx
      have HFi := Lib.hid (fun W => first_calls W (xs.getD k r0) a (by omega) hr'.2.1 hr'.2.2)
      have HEn := Lib.hid (fun W => end_calls W (xs.getD k r0) (by omega))
      have hfn := full_ne (r := xs.getD k r0) (n := n.toNat) (at_ := firstR (xs.getD k r0) a.toNat) (by omega)
      unfold takeX at hok ⊢
      obtain ⟨m, rfl⟩ := Int.eq_ofNat_of_zero_le (show 0 ≤ n by omega)
      rw [Int.toNat_natCast] at hok hfn f2 ⊢
      have HOk := Lib.hid hok
      have HFn := Lib.hid hfn
      have hk0 : (0 : Int) ≤ (k : Int) := by omega
      have hk1 : (k : Int) < (xs.length : Int) := by omega
      have HQ := Lib.hid (fun W (hb : Below w.heap.size w W) => (show W.cell? ⟨p, 1, none⟩ = some (.slice (some ⟨g, 0, none⟩) xs.length c) ∧ W.cell? ⟨g, k * 3, none⟩ = some (.int .i64 (xs.getD k r0).p) ∧ W.cell? ⟨g, k * 3 + 1, none⟩ = some (.int .i64 (xs.getD k r0).n) ∧ W.cell? ⟨g, k * 3 + 2, none⟩ = some (.bool (xs.getD k r0).t) from
        ⟨(hPp.head.below hb).cell (o := 1) rfl, recs3 (HRx.below hb) hk⟩))
      have hf4 : firstR (xs.getD k r0) a.toNat ≤ 4096 := by omega
      have hm4 : m ≤ 4096 := by omega
      clear hr' hr hbA e1 e2 e3 hPp hat HRx hok hfn hb h ht
      generalize xs.getD k r0 = r at *
      generalize firstR r a.toNat = at_ at *
      generalize hys : xs.take k ++ full (parts r m at_) ++ xs.drop (k + 1) = ys at HOk ⊢
      go_enter Try.func57, Try.ntmps57
      go_wp2_with fail
      refine HR.out.mono ?_
      rintro e w1 ⟨rfl, rfl⟩
      go_wp2_with fail
      refine HP.out.mono ?_
      rintro e w1 ⟨rfl, hb1⟩
      obtain ⟨q1, q2, q3, q4⟩ := HQ.out w1 hb1
      have hk2 : ((k : Int) == -1) = false := by simp
      have HB1 := Lib.hid hb1
      clear hb1
      have hbk := Blk.new w1 (encR r).toArray RT
      have hbz := HB1.out.alloc HB1.out.size (.cells (encR r).toArray RT)
      unfold encR at hbk hbz
      go_upto_region 7 with fail
      clear q1 q2 q3 q4
      change Blk (w1.alloc (.cells #[.int .i64 r.p, .int .i64 r.n, .bool r.t] RT)) w1.heap.size #[.int .i64 r.p, .int .i64 r.n, .bool r.t] RT at hbk
      change Below w.heap.size w (w1.alloc (.cells #[.int .i64 r.p, .int .i64 r.n, .bool r.t] RT)) at hbz
      generalize w1.alloc (.cells #[.int .i64 r.p, .int .i64 r.n, .bool r.t] RT) = wx at hbk hbz ⊢
      generalize w1.heap.size = bq at hbk ⊢
      have HZ := Lib.hid hbz
      have HS := Lib.hid (fun W (hb : Below wx.heap.size wx W) => (show W.cell? ⟨bq, 0, none⟩ = some (.int .i64 r.p) ∧ W.cell? ⟨bq, 1, none⟩ = some (.int .i64 r.n) ∧ W.cell? ⟨bq, 2, none⟩ = some (.bool r.t) from
        ⟨(hbk.below hb).cell (o := 0) rfl, (hbk.below hb).cell (o := 1) rfl, (hbk.below hb).cell (o := 2) rfl⟩))
      obtain ⟨s0, s1, s2⟩ := HS.out wx (Below.refl _ _)
      clear hbk hbz
      go_wp2_with fail
      refine (HFi.out wx).mono ?_
      rintro e w2 ⟨rfl, hb2⟩
      have HZ2 := Lib.hid (And.intro hb2 (HZ.out.trans (hb2.mono HZ.out.size)))
      clear hb2 s0 s1 s2
      have hd1 := Lib.hid (show Below wx.heap.size wx w2.drew from HZ2.out.1.drew)
      have hcs : #[Value.int .i64 (r.p : Nat), .int .i64 ((at_ : Nat) - (r.p : Nat)), .bool false, .int .i64 (at_ : Nat), .int .i64 (m : Nat), .bool true, .int .i64 ((at_ : Nat) + (m : Nat)), .int .i64 (((r.p + r.n : Nat) : Int) - (at_ : Nat) - (m : Nat)), .bool false] = ((parts r m at_).flatMap encR).toArray := by
        simp [parts, encR]
        omega
      have HCs := Lib.hid hcs
      have hen : 0 ≤ ((r.p + r.n : Nat) : Int) := by omega
      have hen2 : ((r.p + r.n : Nat) : Int) ≤ 4096 := by omega
      have hat1 : (r.p : Int) ≤ (at_ : Int) := by omega
      have hat2 : (at_ : Int) + (m : Int) ≤ ((r.p + r.n : Nat) : Int) := by omega
      clear hcs
      generalize ((r.p + r.n : Nat) : Int) = ev at HEn HCs hen hen2 hat2
      have hw1 : IntKind.i64.wrap ((at_ : Int) - (r.p : Int)) = (at_ : Int) - (r.p : Int) := by rw [i64_wrap]; unfold wrap64; omega
      have hw2 : IntKind.i64.wrap ((at_ : Int) + (m : Int)) = (at_ : Int) + (m : Int) := by rw [i64_wrap]; unfold wrap64; omega
      have hw3 : IntKind.i64.wrap (ev - (at_ : Int)) = ev - (at_ : Int) := by rw [i64_wrap]; unfold wrap64; omega
      have hw4 : IntKind.i64.wrap (ev - (at_ : Int) - (m : Int)) = ev - (at_ : Int) - (m : Int) := by rw [i64_wrap]; unfold wrap64; omega
      go_wp2_with fail
      go_cut [11] (fun v wc => ∃ b, v = .slice (some ⟨b, 0, none⟩) 3 3 ∧ Blk wc b ((parts r m at_).flatMap encR).toArray RT ∧ Below wx.heap.size wx wc ∧ wx.heap.size ≤ b)
      case first =>
        go_region_held3 (fun w' => w'.cell? ⟨bq, 0, none⟩ = some (.int .i64 r.p) ∧ w'.cell? ⟨bq, 1, none⟩ = some (.int .i64 r.n) ∧ w'.cell? ⟨bq, 2, none⟩ = some (.bool r.t))
          (first | exact HS.out _ hd1.out | exact HS.out _ hd2.out | exact HS.out _ (hd2.out.alloc hd2.out.size _))
          ((go_at_call 89; (refine (Calls.mono (HEn.out _) ?_)); rintro e w3 ⟨rfl, hb⟩; have hd2 := Lib.hid (hd1.out.trans (hb.mono hd1.out.size))))
        all_goals
          go_wp2_with fail
          go_meet
          refine ⟨w3.heap.size, rfl, ?_, hd2.out.alloc hd2.out.size _, hd2.out.size⟩
          rw [← HCs.out]
          exact Blk.new _ _ _
      case rest =>
      obtain ⟨b, rfl, hBk, hBb, hBz⟩ := hcut
      have hpl : (parts r m at_).length = 3 := rfl
      have hRp : Recs encR 3 wc RT b 3 (parts r m at_) := Recs.of_blk hBk rfl (by rw [List.take_of_length_le]; exact Nat.le_of_eq rfl) (Nat.le_refl _) (by decide)
      have HD := Lib.hid (delete_calls wc b 3 (parts r m at_) hRp (by rw [hpl]; decide))
      rw [hpl] at HD
      have HBb := Lib.hid (And.intro hBb (And.intro hBz hRp.lt))
      clear hw1 hw2 hw3 hw4 hBk hBb hBz hRp hpl
      go_wp2_with fail
      refine HD.out.mono ?_
      rintro e w4 ⟨rfl, hR4, hK4⟩
      have hbw : Below wx.heap.size wx w4 := below_kept HBb.out.1 hK4 HBb.out.1.size (by simpa using HBb.out.2.1)
      have HB4 := Lib.hid (HZ.out.trans (hbw.mono HZ.out.size))
      have hbg : b ≠ g := by
        have h1 := (HRr.out).lt
        have h2 := HZ.out.size
        have h3 := HBb.out.2.1
        omega
      have HRp := Lib.hid (replace_calls w4 g c b 3 xs (full (parts r m at_)) (HRr.out.below HB4.out) hR4 HFn.out (by
        have h1 := hR4.cap
        omega) hbg k (k + 1) (by omega) (by omega))
      rw [show ((k + 1 : Nat) : Int) = (k : Int) + 1 from by omega, hys] at HRp
      have hk3 : IntKind.i64.wrap ((k : Int) + 1) = (k : Int) + 1 := by rw [i64_wrap]; unfold wrap64; omega
      obtain ⟨q1, _⟩ := HQ.out w4 HB4.out
      generalize (full (parts r m at_)).length = fl at HRp
      clear hbw hR4 hK4 hbg HD hys
      go_wp2_with fail
      refine HRp.out.mono ?_
      rintro e w6 ⟨g', c', rfl, hR6, hg6, hK6⟩
      have HS6 := Lib.hid (spw_of HPp.out HOk.out HB4.out hR6 hg6 hK6)
      have hh6 : Blk w6 p #[.int .i64 P, .slice (some ⟨g, 0, none⟩) xs.length c] ST := (HPp.out.head.below HB4.out).kept hK6 (by simpa using Ne.symm (HPp.out.own g rfl).2)
      have z1 := hh6.cell (o := 1) rfl
      have z1f := hh6.free 1
      clear hR6 hg6 hK6 hh6 q1
      go_wp2_with fail
      go_ret2
      exact ⟨rfl, HS6.out⟩
end
end Go.Proofs.Ytldlogmjkbhomaa.Spa
