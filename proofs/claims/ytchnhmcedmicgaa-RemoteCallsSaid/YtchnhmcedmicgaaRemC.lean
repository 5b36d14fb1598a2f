/- The contracts of package remote's Remove and Take. -/
import Derived.Test.YtchnhmcedmicgaaRemB
namespace Go.Proofs.Ytchnhmcedmicgaa.Rem
open Go.RowKit Go.Proofs.Ytchnhmcedmicgaa.Aid
/-- What a call that writes leaves. -/
def Wrote (p : Nat) (F : List Nat) (n m : Nat) (s' : QRun) (w w' : World) : Prop := ∃ F', QAt w' p F' n m s' ∧ Kept F w w' ∧ ∀ x ∈ F', x ∈ F ∨ w.heap.size ≤ x
/-- One queue's row anew. -/
theorem parts_set {w w' : World} {p n m m' : Nat} {F : List Nat} {s s' : QRun} {rb wb sb : Nat} {hs : List Value} (h : Parts w p F n m s rb wb sb hs) {k : Nat} {hd hd' : Value} {r' : List It} (hhd : hs[k]? = some hd)
    (hs' : ∀ j, row s' j = if j = k then r' else row s j) (hrow : Row w' 100 rb n (hs.set k hd')) (hnew : Hdr encI 3 w' IT hd' r') (hblk : ∀ g, hd'.ownBlock = some g → hd.ownBlock = some g ∨ w.heap.size ≤ g)
    (hz : w.heap.size ≤ w'.heap.size) (hold : ∀ i, i < w.heap.size → i ≠ rb → i ≠ wb → i ≠ sb → hd.ownBlock ≠ some i → w'.heap[i]? = w.heap[i]?)
    (hwhr : MapI w' Try.prog 3 3 .i64 (keI .i64) (okI .i64) wb (total s') (whrI s'))
    (hsent : ∃ m'' g, m'' ≤ m' ∧ MapI w' Try.prog PT 3 .i64 (keL .i64) (okL .i64 2) sb m'' g ∧ ∀ f t, (g [f, t]).getD 0 = s'.sent f t) :
    ∃ F', Parts w' p F' n m' s' rb wb sb (hs.set k hd') ∧ ∀ x ∈ F', x ∈ F ∨ w.heap.size ≤ x := by
  have hkl : k < hs.length := (List.getElem?_eq_some_iff.1 hhd).1
  obtain ⟨i1, i2, i3, i4⟩ := h.ins
  obtain ⟨n1, n2, n3, n4, n5, n6⟩ := h.ne
  have hget : ∀ j, (hs.set k hd')[j]? = if j = k then some hd' else hs[j]? := fun j => by
    rw [List.getElem?_set]
    by_cases e : k = j
    · subst e; simp [hkl]
    · rw [if_neg e, if_neg fun e' => e e'.symm]
  have hlt2 := h.rows.lt
  have hltw := h.whr.lt
  obtain ⟨mx, gx, _, hsx, _⟩ := h.sent
  have hlts := hsx.lt
  have hltp := h.head.lt
  have hpd : ∀ g, hd.ownBlock = some g → g ≠ p ∧ g ≠ rb ∧ g ≠ wb ∧ g ≠ sb ∧ g ∈ F := fun g hg => by
    obtain ⟨a, b, c, d, e⟩ := h.out k hd g hhd hg
    exact ⟨b, c, d, e, a⟩
  have hother : ∀ (j : Nat) (hj : Value), j ≠ k → hs[j]? = some hj → Hdr encI 3 w' IT hj (row s j) := fun j hj hne hjk => (h.each j hj hjk).same fun g hg => by
    obtain ⟨_, a1, a2, a3, a4⟩ := h.out j hj g hjk hg
    exact hold g ((h.each j hj hjk).lt hg) a2 a3 a4 fun e => hne (h.apart j k hj hd g hjk hhd hg e)
  let F' : List Nat := match hd'.ownBlock with
    | some g => g :: F
    | none => F
  have hF : ∀ x ∈ F, x ∈ F' := fun x hx => by
    show x ∈ (match hd'.ownBlock with | some g => g :: F | none => F)
    split
    · exact List.mem_cons_of_mem _ hx
    · exact hx
  have hF2 : ∀ g, hd'.ownBlock = some g → g ∈ F' := fun g hg => by
    show g ∈ (match hd'.ownBlock with | some g => g :: F | none => F)
    rw [hg]
    exact List.mem_cons_self
  refine ⟨F', ⟨(hold p hltp n1 n2 n3 fun e => (hpd p e).1 rfl).trans h.head, hrow, by rw [List.length_set]; exact h.hlen, fun j hj hjk => ?_, fun j l hj hl g h1 h2 h3 h4 => ?_, fun j hj g h1 h2 => ?_, hwhr, hsent, ⟨hF p i1, hF rb i2, hF wb i3, hF sb i4⟩, h.ne, fun x hx => ?_⟩, fun x hx => ?_⟩
  · rw [hget] at hjk
    rw [hs']
    by_cases e : j = k
    · rw [if_pos e] at hjk ⊢
      injection hjk with hjk
      subst hjk
      exact hnew
    · rw [if_neg e] at hjk ⊢
      exact hother j hj e hjk
  · rw [hget] at h1 h2
    by_cases e1 : j = k
    · by_cases e2 : l = k
      · rw [e1, e2]
      · rw [if_pos e1] at h1
        rw [if_neg e2] at h2
        injection h1 with h1
        subst h1
        rcases hblk g h3 with h5 | h5
        · exact absurd (h.apart l k hl hd g h2 hhd h4 h5) e2
        · have := (h.each l hl h2).lt h4; omega
    · rw [if_neg e1] at h1
      by_cases e2 : l = k
      · rw [if_pos e2] at h2
        injection h2 with h2
        subst h2
        rcases hblk g h4 with h5 | h5
        · exact absurd (h.apart j k hj hd g h1 hhd h3 h5) e1
        · have := (h.each j hj h1).lt h3; omega
      · rw [if_neg e2] at h2
        exact h.apart j l hj hl g h1 h2 h3 h4
  · rw [hget] at h1
    by_cases e1 : j = k
    · rw [if_pos e1] at h1
      injection h1 with h1
      subst h1
      refine ⟨hF2 g h2, ?_⟩
      rcases hblk g h2 with h5 | h5
      · obtain ⟨a, b, c, d, _⟩ := hpd g h5
        exact ⟨a, b, c, d⟩
      · omega
    · rw [if_neg e1] at h1
      obtain ⟨a0, a1, a2, a3, a4⟩ := h.out j hj g h1 h2
      exact ⟨hF g a0, a1, a2, a3, a4⟩
  · have hx' : x ∈ (match hd'.ownBlock with | some g => g :: F | none => F) := hx
    split at hx'
    · next g hg =>
      rcases List.mem_cons.1 hx' with rfl | hx'
      · exact hnew.lt hg
      · exact Nat.lt_of_lt_of_le (h.flt x hx') hz
    · exact Nat.lt_of_lt_of_le (h.flt x hx') hz
  · have hx' : x ∈ (match hd'.ownBlock with | some g => g :: F | none => F) := hx
    split at hx'
    · next g hg =>
      rcases List.mem_cons.1 hx' with rfl | hx'
      · rcases hblk x hg with h5 | h5
        · exact .inl (hpd x h5).2.2.2.2
        · exact .inr h5
      · exact .inl hx'
    · exact .inl hx'
theorem wrote_same {w w' : World} {p n m : Nat} {F : List Nat} {s : QRun} (h : QAt w p F n m s) (k : Below w.heap.size w w') : Wrote p F n m s w w' := ⟨F, h.below k, Kept.of_below k F, fun _ hx => .inl hx⟩
def remV (s : QRun) (a : Int) : Bool := (whr s a).isSome
theorem total_pos {n m : Nat} {s : QRun} (h : OkQ n s m) {a : Int} {k : Nat} (e : whr s a = some k) : total (remS s a) = total s - 1 := by have := total_rem h e; omega
set_option maxHeartbeats 4000000 in
theorem remove_calls (w : World) (p : Nat) (F : List Nat) (n m : Nat) (s : QRun) (a : Int) (ha : okI .i64 a) (h : QAt w p F n m s) :
    Calls Try.prog 54 #[.pointer (some ⟨p, 0, none⟩), .int .i64 a] w fun e w' => e = .returned (.bool (remV s a)) ∧ Wrote p F n m (remS s a) w w' := by
  have hb1 := (Below.refl w.heap.size w).alloc (Nat.le_refl _) (.cells #[.int .i64 a] 3)
  have HQ := Lib.hid h
  have hQ1 := h.below hb1
  have HW := Lib.hid (where_calls _ p F n m s a ha hQ1)
  have hq := Blk.new w #[.int .i64 a] 3
  have HB1 := Lib.hid hb1
  unfold remV
  cases e : whr s a with
  | none =>
    rw [show whrV s a = -1 by unfold whrV; rw [e]] at HW
    rw [show remS s a = s by unfold remS; rw [e]]
    clear h e hQ1 hq hb1
    go_enter Try.func54, Try.ntmps54
    go_wp2_with fail
    refine HW.out.mono ?_
    rintro e w2 ⟨rfl, rfl⟩
    go_wp2_with fail
    go_ret
    exact ⟨rfl, wrote_same HQ.out HB1.out⟩
  | some k =>
    rw [show whrV s a = k by unfold whrV; rw [e]] at HW
    have HE := Lib.hid e
    have hkn : k < n := by have := (whr_some e).1; rw [h.ok.len] at this; exact this
    have h64 := h.ok.n64
    have hne : ((k : Int) == -1) = false := beq_eq_false_iff_ne.2 (by omega)
    have hk0 : (0 : Int) ≤ (k : Int) := by omega
    have hk1 : (k : Int) < (n : Int) := by omega
    have HQ1 := Lib.hid hQ1
    have HBq := Lib.hid hq
    clear h e hQ1 hq hb1
    go_enter Try.func54, Try.ntmps54
    go_wp2_with fail
    refine HW.out.mono ?_
    rintro e w2 ⟨rfl, rfl⟩
    generalize w.alloc (.cells #[.int .i64 a] 3) = w1 at HB1 HQ1 HBq ⊢
    obtain ⟨q, hqq⟩ : ∃ q, q = w.heap.size := ⟨_, rfl⟩
    rw [← hqq] at HBq ⊢
    have HqF := Lib.hid (show ∀ x, x < w.heap.size → x ≠ q from fun x hx => by omega)
    clear hqq HW
    obtain ⟨rb, wb, sb, hs, hP⟩ := HQ.out.ex
    have hP1 := hP.same (w' := w1) HB1.out.size fun i hi _ => HB1.out.block i hi
    have c1 := hP1.c1
    have b0 := HBq.out.cell (o := 0) rfl
    obtain ⟨w3, hdel, hM3, hk3⟩ := (show MapI w1.drew _ _ _ _ _ _ _ _ _ from hP1.whr).drop keyAsI huW (y := a) ha 0
    have hee := whrI_some HE.out
    rw [hee, if_pos (show (some (k : Int)).isSome = true from rfl)] at hM3
    unfold keI at hdel
    have hk3' := undrewK hk3
    obtain ⟨hd, hh, hc, hH⟩ := hP.hd hkn
    have hrow : row s k ≠ [] := by
      obtain ⟨_, x, hx, _⟩ := whr_some HE.out
      intro e0
      rw [e0] at hx
      cases hx
    obtain ⟨g, c, hhd, hR⟩ : ∃ g c, hd = .slice (some ⟨g, 0, none⟩) (row s k).length c ∧ Recs encI 3 w IT g c (row s k) := by
      rcases hH with ⟨_, h0⟩ | h0
      · exact absurd h0 hrow
      · exact h0
    subst hhd
    obtain ⟨o1, o2, o3, o4, o5⟩ := hP.out k _ g hh rfl
    obtain ⟨n1, n2, n3, n4, n5, n6⟩ := hP.ne
    have hR3 := (hR.below HB1.out).kept hk3' (by simpa using o4)
    have hcap : (row s k).length ≤ 1000000 := by have h1 := row_le_total (s := s) k; have h2 := HQ.out.ok.few; have h3 := HQ.out.small; omega
    have hbq3 := HBq.out.kept hk3' (by simpa using (HqF.out wb hP.whr.lt).symm)
    have hgq : q ≠ g := (HqF.out g hR.lt).symm
    have c03 := (hP1.head.kept hk3' (by simpa using n2)).cell (o := 0) rfl
    have hrw3 := (hP1.rows.kept hk3' (by simpa using n4))
    have cr3 : w3.cell? ⟨rb, k, none⟩ = some (.slice (some ⟨g, 0, none⟩) (row s k).length c) := by rw [hrw3.cell (by rw [hP.hlen]; exact hkn)]; exact hh
    have HDel := Lib.hid (fun (W : World) (hb : Below w3.heap.size w3 W) => delete_calls W g c (row s k) a q (hR3.below hb) (Nat.lt_of_lt_of_le hbq3.lt hb.size) hgq ((hb.cell (p := ⟨q, 0, none⟩) hbq3.lt).trans (hbq3.cell (o := 0) rfl)) hcap)
    have HAfter := Lib.hid (fun (W w4 : World) (hb : Below w3.heap.size w3 W) (k4 : Kept [g] W w4) => (show w4.cell? ⟨p, 0, none⟩ = some (.slice (some ⟨rb, 0, none⟩) n n) ∧ w4.cell? ⟨rb, k, none⟩ = some (.slice (some ⟨g, 0, none⟩) (row s k).length c) ∧ w4.frozen? ⟨rb, k, none⟩ = false from by
      have e1 := ((hP1.head.kept hk3' (by simpa using n2)).below hb).kept k4 (by simpa using Ne.symm o2)
      have e2 := (hrw3.below hb).kept k4 (by simpa using Ne.symm o3)
      refine ⟨e1.cell (o := 0) rfl, ?_, e2.free k⟩
      rw [e2.cell (by rw [hP.hlen]; exact hkn)]
      exact hh))
    have b03 := hbq3.cell (o := 0) rfl
    have c13 := (hP1.head.kept hk3' (by simpa using n2)).cell (o := 1) rfl
    have HM3 := Lib.hid hM3
    have HK3 := Lib.hid hk3'
    have HP := Lib.hid hP
    have HH := Lib.hid hh
    have HNe := Lib.hid (And.intro (And.intro n4 (And.intro n5 n6)) (And.intro o3 (And.intro o4 o5)))
    have HRw := Lib.hid hrw3
    clear hP1 hM3 hk3 hk3' hH hrow hR o1 o2 o3 o4 o5 n1 n2 n3 n4 n5 n6 hR3 hcap hbq3 hgq hP hh hrw3 hc hee
    go_upto_region 4 with fail
    go_cut [] (fun wc => w3 = wc)
    case first =>
      go_region_held3 (fun w' => w'.cell? ⟨p, 1, none⟩ = some (.map (some wb)) ∧ w'.cell? ⟨q, 0, none⟩ = some (.int .i64 a)) (first | exact ⟨c1, b0⟩ | exact ⟨c13, b03⟩) (fail)
      all_goals (go_wp2_with fail; go_meet; exact rfl)
    case rest =>
    obtain rfl := hcut
    clear c1 b0 hdel c13 b03
    have HB0 := Lib.hid ((Below.refl w3.heap.size w3).drew)
    go_upto_region 5 with fail
    go_cut [] (fun wc => Recs encI 3 wc IT g c (keeps a (row s k)) ∧ Kept [rb, g] w3 wc ∧ Row wc 100 rb n (hs.set k (.slice (some ⟨g, 0, none⟩) (keeps a (row s k)).length c)))
    case first =>
      go_region_with (first
        | (go_at_call 82; (with_reducible refine (Calls.mono (HDel.out _ HB0.out) ?_)); rintro e w4 ⟨rfl, hR4, hk4⟩; obtain ⟨y0, y1, y2⟩ := HAfter.out _ _ HB0.out hk4; have HR4 := Lib.hid hR4; have HK4 := Lib.hid (undrewK hk4); clear hR4 hk4)
        | fail)
      all_goals
        go_wp2_with fail
        go_meet
        exact ⟨HR4.out.other (a := ⟨rb, k, none⟩) HNe.out.2.1 _, (HK4.out.mono (by simp)).setCell (p := ⟨rb, k, none⟩) (.inl (by simp)) _, (HRw.out.kept HK4.out (by simpa using Ne.symm HNe.out.2.1)).store k (.slice (some ⟨g, 0, none⟩) (keeps a (row s k)).length c)⟩
    case rest =>
    obtain ⟨hR5, hk5, hrw5⟩ := hcut
    have HR5 := Lib.hid hR5
    have HK5 := Lib.hid hk5
    have HRw5 := Lib.hid hrw5
    clear hR5 hk5 hrw5 c03 cr3
    go_wp2_with fail
    go_ret
    have hKa : Kept [rb, wb, g] w wc := (((Kept.of_below HB1.out _).trans (HK3.out.mono (by simp))).trans (HK5.out.mono (by simp)))
    have hrs : remS s a = remD s a k := by unfold remS; rw [HE.out]
    obtain ⟨F', hP', hF'⟩ := parts_set (w' := wc) (s' := remS s a) (m' := m) HP.out HH.out (fun j => by rw [hrs]; exact row_remD HQ.out.ok (by rw [HQ.out.ok.len]; exact hkn) j)
      HRw5.out (.inr ⟨g, c, rfl, HR5.out⟩) (fun g' hg' => .inl hg') hKa.size
      (fun i hi i1 i2 i3 i4 => hKa.block i hi (by simp; exact ⟨i1, i2, fun e => i4 (by rw [e]; rfl)⟩))
      (by
        rw [total_pos HQ.out.ok HE.out]
        refine (HM3.out.kept HK5.out (by simp; exact ⟨Ne.symm HNe.out.1.1, Ne.symm HNe.out.2.2.1⟩)).congr fun b _ => ?_
        unfold upd
        have hwr := whr_rem HQ.out.ok a b
        by_cases e : b = a
        · rw [if_pos e] at hwr ⊢
          exact (whrI_none hwr).symm
        · rw [if_neg e] at hwr ⊢
          exact (whrI_congr hwr).symm)
      (by
        obtain ⟨m'', g0, s1, s2, s3⟩ := HP.out.sent
        exact ⟨m'', g0, s1, s2.kept hKa (by simp; exact ⟨Ne.symm HNe.out.1.2.1, Ne.symm HNe.out.1.2.2, Ne.symm HNe.out.2.2.2⟩), by rw [hrs]; exact s3⟩)
    exact ⟨rfl, F', ⟨remS_ok HQ.out.ok a, HQ.out.small, rb, wb, sb, _, hP'⟩, ⟨hKa.os, hKa.tape, hKa.output, hKa.size, fun i hi hF => hKa.block i hi (by
      simp
      obtain ⟨i1, i2, i3, i4⟩ := HP.out.ins
      exact ⟨fun e => hF (by rw [e]; exact i2), fun e => hF (by rw [e]; exact i3), fun e => hF (by rw [e]; exact (HP.out.out k _ g HH.out rfl).1)⟩)⟩, hF'⟩
end Go.Proofs.Ytchnhmcedmicgaa.Rem
