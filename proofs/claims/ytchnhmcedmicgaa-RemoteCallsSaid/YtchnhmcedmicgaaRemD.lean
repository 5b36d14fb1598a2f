/- The contract of package remote's Take. -/
import Derived.Test.YtchnhmcedmicgaaRemC
import Derived.Laws.ResultCell
namespace Go.Proofs.Ytchnhmcedmicgaa.Rem
open Go.RowKit Go.Proofs.Ytchnhmcedmicgaa.Aid
def itV : Option It → Value
  | some x => .agg #[.int .i64 x.frm, .int .i64 x.at_, .int .i64 x.seq]
  | none => .agg #[.int .i64 0, .int .i64 0, .int .i64 0]
theorem takeV_row (n : Nat) (s : QRun) (k : Int) : takeV n s k = (rowI n s k).head? := by
  unfold takeV rowI
  split <;> rfl
theorem okI_at {a : Int} (h0 : 0 ≤ a) (h1 : a < 1048576) : okI .i64 a := by
  simp [okI, Lit.wf, IntKind.min, IntKind.max, IntKind.signed, IntKind.bits]
  omega
theorem results_cell_rec {P : Program} {fn : Func} {p u : Tmp} {ty : TypeId} (h : fn.results = #[.cell p ty, .tmp u]) (tmps : Array Value) (w : World) (g : Nat) (t : TypeId) (cs : Array Value) (d : TypeDesc) (hp : tmps.getD p undef = .pointer (some ⟨g, 0, none⟩)) (hg : Blk w g cs t)
    (hu : P.underlying ty = some d) (hd : (match d with | .struct _ | .array _ _ => true | _ => false) = true) (hi : (P.info? ty).map (·.size) = some cs.size) (v : Value) (hv : tmps.getD u undef = v) :
    (results fn tmps).run P w = .ok (.tuple #[.agg cs, v]) w := by
  have hp' : tmps[p]?.getD undef = .pointer (some ⟨g, 0, none⟩) := by simpa using hp
  rw [results_cell_tmp h, hv]
  simp [hp', asAddr, run_loadVar_row w g t ty cs (0, 0) d hg hu hd hi]
theorem rowI_len {w : World} {p : Nat} {F : List Nat} {n m : Nat} {s : QRun} (h : QAt w p F n m s) (k : Int) : (rowI n s k).length ≤ 1000000 := by
  have h1 := h.ok.few
  have h2 := h.small
  have h3 := row_le_total (s := s) k.toNat
  unfold rowI
  split
  · omega
  · simp
set_option maxHeartbeats 4000000 in
theorem take_none (w : World) (p : Nat) (F : List Nat) (n m : Nat) (s : QRun) (k : Int) (h : QAt w p F n m s) (hr : rowI n s k = []) :
    Calls Try.prog 52 #[.pointer (some ⟨p, 0, none⟩), .int .i64 k] w fun e w' => e = .returned (.tuple #[.agg #[.int .i64 0, .int .i64 0, .int .i64 0], .bool false]) ∧ Wrote p F n m s w w' := by
  have hb1 := (Below.refl w.heap.size w).alloc (Nat.le_refl _) (.cells #[.int .i64 0, .int .i64 0, .int .i64 0] IT)
  have hq := Blk.new w #[.int .i64 0, .int .i64 0, .int .i64 0] IT
  have HQ := Lib.hid h
  have HW := Lib.hid (rqueue_calls _ p F n m s k (h.below hb1))
  rw [hr] at HW
  have HB1 := Lib.hid hb1
  have HBq := Lib.hid hq
  clear h hb1 hq hr
  go_enter Try.func52, Try.ntmps52
  go_upto_region 1 with fail
  generalize w.alloc (.cells #[.int .i64 0, .int .i64 0, .int .i64 0] IT) = w1 at HB1 HBq HW ⊢
  obtain ⟨q, hqq⟩ : ∃ q, q = w.heap.size := ⟨_, rfl⟩
  rw [← hqq] at HBq ⊢
  have HWq := Lib.hid (Nat.le_of_eq hqq.symm)
  clear hqq
  go_wp2_with fail
  refine HW.out.mono ?_
  rintro e w2 ⟨⟨hd, rfl, hH, hgF⟩, rfl⟩
  have b0 := HBq.out.cell (o := 0) rfl
  have b1 := HBq.out.cell (o := 1) rfl
  have b2 := HBq.out.cell (o := 2) rfl
  have bf0 := HBq.out.free 0
  have bf1 := HBq.out.free 1
  have bf2 := HBq.out.free 2
  obtain ⟨A, c, rfl⟩ := hH.shape
  clear hH hgF HW
  go_wp2_with fail
  have hq2 := ((HBq.out.set 0 (.int .i64 0)).set 1 (.int .i64 0)).set 2 (.int .i64 0)
  refine bodyPost_ret_by (results_cell_rec rfl _ _ q IT #[.int .i64 0, .int .i64 0, .int .i64 0] _ rfl hq2 Try.underlying92 rfl sizeI _ rfl) rfl ?_
  have hk := (Kept.refl [q] w1)
  have hb2 := below_kept HB1.out (((hk.setCell (p := ⟨q, 0, none⟩) (by simp) (.int .i64 0)).setCell (p := ⟨q, 1, none⟩) (by simp) (.int .i64 0)).setCell (p := ⟨q, 2, none⟩) (by simp) (.int .i64 0)) HB1.out.size (by simpa using HWq.out)
  exact ⟨rfl, wrote_same HQ.out hb2⟩
set_option maxHeartbeats 4000000 in
theorem take_yes (w : World) (p : Nat) (F : List Nat) (n m : Nat) (s : QRun) (k : Int) (x : It) (r : List It) (h : QAt w p F n m s) (hr : rowI n s k = x :: r) :
    Calls Try.prog 52 #[.pointer (some ⟨p, 0, none⟩), .int .i64 k] w fun e w' => e = .returned (.tuple #[.agg #[.int .i64 x.frm, .int .i64 x.at_, .int .i64 x.seq], .bool true]) ∧ Wrote p F n m (remS s x.at_) w w' := by
  have hb1 := (Below.refl w.heap.size w).alloc (Nat.le_refl _) (.cells #[.int .i64 0, .int .i64 0, .int .i64 0] IT)
  have hq := Blk.new w #[.int .i64 0, .int .i64 0, .int .i64 0] IT
  have HQ := Lib.hid h
  have HQ1 := Lib.hid (h.below hb1)
  have HW := Lib.hid (rqueue_calls _ p F n m s k (h.below hb1))
  rw [hr] at HW
  have HB1 := Lib.hid hb1
  have HBq := Lib.hid hq
  have HqF := Lib.hid (show w.heap.size ∉ F from fun hx => by have := h.flt _ hx; omega)
  have hlen := rowI_len h k
  have htv : takeV n s k = some x := by rw [takeV_row, hr]; rfl
  have hwx := (take_some h.ok htv).1
  obtain ⟨hkn, _⟩ := takeV_some htv
  have hxr := h.ok.rng k.toNat x (by
    unfold rowI at hr
    rw [if_pos hkn] at hr
    rw [hr]; simp)
  have HA := Lib.hid (okI_at hxr.1 hxr.2.1)
  have HRV := Lib.hid (show remV s x.at_ = true by unfold remV; rw [hwx]; rfl)
  rw [hr] at hlen
  clear h hb1 hq hr htv hwx hkn hxr
  go_enter Try.func52, Try.ntmps52
  go_upto_region 1 with fail
  generalize w.alloc (.cells #[.int .i64 0, .int .i64 0, .int .i64 0] IT) = w1 at HB1 HQ1 HBq HW ⊢
  obtain ⟨q, hqq⟩ : ∃ q, q = w.heap.size := ⟨_, rfl⟩
  rw [← hqq] at HBq HqF ⊢
  have HWq := Lib.hid (Nat.le_of_eq hqq.symm)
  clear hqq
  go_wp2_with fail
  refine HW.out.mono ?_
  rintro e w2 ⟨⟨hd, rfl, hH, hgF⟩, rfl⟩
  obtain ⟨g, c, rfl, hR⟩ : ∃ g c, hd = .slice (some ⟨g, 0, none⟩) (x :: r).length c ∧ Recs encI 3 w1 IT g c (x :: r) := by
    rcases hH with ⟨_, h0⟩ | h0
    · cases h0
    · exact h0
  obtain ⟨r0, r1, r2⟩ := rec_cells hR (k := 0) (x := x) rfl
  rw [List.length_cons] at hlen ⊢
  rw [Nat.zero_mul] at r0 r1 r2
  have hn0 : (((r.length + 1 : Nat) : Int) == 0) = false := beq_eq_false_iff_ne.2 (by omega)
  have hn1 : (0 : Int) < ((r.length + 1 : Nat) : Int) := by omega
  have hb2 := (Below.refl w1.heap.size w1).alloc (Nat.le_refl _) (.cells #[.int .i64 x.frm, .int .i64 x.at_, .int .i64 x.seq] IT)
  have hz := Blk.new w1 #[.int .i64 x.frm, .int .i64 x.at_, .int .i64 x.seq] IT
  have HB2 := Lib.hid (below_then HB1.out hb2)
  have HQ2 := Lib.hid (HQ1.out.below hb2)
  have HBq2 := Lib.hid (HBq.out.below hb2)
  have HZ := Lib.hid hz
  have HzF := Lib.hid (show w1.heap.size ∉ F from fun hx => by have := HQ1.out.flt _ hx; omega)
  have Hqz := Lib.hid (show w1.heap.size ≠ q from by have := HBq.out.lt; omega)
  clear hH hgF HW hR hb2 hz HQ1 HB1 HBq
  go_upto_region 5 with fail
  clear r0 r1 r2
  generalize w1.alloc (.cells #[.int .i64 x.frm, .int .i64 x.at_, .int .i64 x.seq] IT) = w2 at HB2 HQ2 HBq2 HZ ⊢
  generalize w1.heap.size = z at HZ HzF Hqz ⊢
  have z0 := HZ.out.cell (o := 0) rfl
  have z1 := HZ.out.cell (o := 1) rfl
  have z2 := HZ.out.cell (o := 2) rfl
  have HRm := Lib.hid (remove_calls w2.drew p F n m s x.at_ HA.out HQ2.out.drew)
  rw [HRV.out] at HRm
  have HAft := Lib.hid (fun (w3 : World) (hw : Wrote p F n m (remS s x.at_) w2.drew w3) => (show Blk w3 q #[.int .i64 0, .int .i64 0, .int .i64 0] IT ∧ (∃ F', QAt w3 p F' n m (remS s x.at_) ∧ Kept F w2 w3 ∧ (∀ y ∈ F', y ∈ F ∨ w2.heap.size ≤ y)) from by
    obtain ⟨F', h1, h2, h3⟩ := hw
    exact ⟨HBq2.out.kept (undrewK h2) HqF.out, F', h1, undrewK h2, h3⟩))
  have HAz := Lib.hid (fun (w3 : World) (hw : Wrote p F n m (remS s x.at_) w2.drew w3) => (show Blk w3 z #[.int .i64 x.frm, .int .i64 x.at_, .int .i64 x.seq] IT from by
    obtain ⟨F', h1, h2, h3⟩ := hw
    exact HZ.out.kept (undrewK h2) HzF.out))
  go_cut [5] (fun s5 wc => s5 = .bool true ∧ Blk wc q #[.int .i64 x.frm, .int .i64 x.at_, .int .i64 x.seq] IT ∧ ∃ F', QAt wc p F' n m (remS s x.at_) ∧ Kept F w wc ∧ ∀ y ∈ F', y ∈ F ∨ w.heap.size ≤ y)
  case first =>
    go_region_with (first
      | (go_at_call 54; (with_reducible refine (Calls.mono HRm.out ?_)); rintro e w3 ⟨rfl, hw⟩; obtain ⟨hq3, hF3⟩ := HAft.out _ hw; have hz3 := HAz.out _ hw; have c0 := hq3.cell (o := 0) rfl; have c1 := hq3.cell (o := 1) rfl; have c2 := hq3.cell (o := 2) rfl; have f0 := hq3.free 0; have f1 := hq3.free 1; have f2 := hq3.free 2; have y0 := hz3.cell (o := 0) rfl; have y1 := hz3.cell (o := 1) rfl; have y2 := hz3.cell (o := 2) rfl; have HF3 := Lib.hid (And.intro hq3 hF3); clear hw hq3 hF3 hz3)
      | fail)
    all_goals
      go_wp2_with fail
      go_meet
      obtain ⟨hq3, F', hQ3, hk3, hF3⟩ := HF3.out
      have hbq := ((hq3.set 0 (.int .i64 x.frm)).set 1 (.int .i64 x.at_)).set 2 (.int .i64 x.seq)
      have hkq := (((Kept.refl [q] w3).setCell (p := ⟨q, 0, none⟩) (by simp) (.int .i64 x.frm)).setCell (p := ⟨q, 1, none⟩) (by simp) (.int .i64 x.at_)).setCell (p := ⟨q, 2, none⟩) (by simp) (.int .i64 x.seq)
      have hqF : ∀ y ∈ F', y ∉ [q] := fun y hy => by
        have hlt := HBq2.out.lt
        rcases hF3 y hy with h | h
        · simp; intro e; exact HqF.out (e ▸ h)
        · simp; omega
      refine ⟨rfl, hbq, F', hQ3.kept hkq hqF, ((((Kept.of_below HB2.out F).trans hk3).setCell (p := ⟨q, 0, none⟩) (.inr HWq.out) (.int .i64 x.frm)).setCell (p := ⟨q, 1, none⟩) (.inr HWq.out) (.int .i64 x.at_)).setCell (p := ⟨q, 2, none⟩) (.inr HWq.out) (.int .i64 x.seq), fun y hy => ?_⟩
      rcases hF3 y hy with h | h
      · exact .inl h
      · exact .inr (Nat.le_trans HB2.out.size h)
  case rest =>
  obtain ⟨rfl, hbq, hF⟩ := hcut
  have b0 := hbq.cell (o := 0) rfl
  have b1 := hbq.cell (o := 1) rfl
  have b2 := hbq.cell (o := 2) rfl
  have HF := Lib.hid hF
  have HBc := Lib.hid hbq
  clear hbq hF
  go_wp2_with fail
  refine bodyPost_ret_by (results_cell_rec rfl _ _ q IT _ _ rfl HBc.out Try.underlying92 rfl sizeI _ rfl) rfl ?_
  exact ⟨rfl, HF.out⟩
theorem take_calls (w : World) (p : Nat) (F : List Nat) (n m : Nat) (s : QRun) (k : Int) (h : QAt w p F n m s) :
    Calls Try.prog 52 #[.pointer (some ⟨p, 0, none⟩), .int .i64 k] w fun e w' => e = .returned (.tuple #[itV (takeV n s k), .bool (takeV n s k).isSome]) ∧ Wrote p F n m (takeS n s k) w w' := by
  unfold takeS
  cases hr : rowI n s k with
  | nil =>
    rw [show takeV n s k = none by rw [takeV_row, hr]; rfl]
    exact take_none w p F n m s k h hr
  | cons x r =>
    rw [show takeV n s k = some x by rw [takeV_row, hr]; rfl]
    exact take_yes w p F n m s k x r h hr
end Go.Proofs.Ytchnhmcedmicgaa.Rem
