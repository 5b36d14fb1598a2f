/- The contracts of the reference's Remove and Take, and of the law's same. -/
import Derived.Test.YtchnhmcedmicgaaRemM
import Derived.Test.YtchnhmcedmicgaaAidRecs
set_option linter.unusedSimpArgs false
namespace Go.Proofs.Ytchnhmcedmicgaa.Rem
open Go.RowKit Go.Proofs.Ytchnhmcedmicgaa.Aid
/-- What a call that writes leaves. -/
def RWrote (rp : Nat) (F : List Nat) (n : Nat) (log' : List RRow) (w w' : World) : Prop := ∃ F', RefQ w' rp F' n log' ∧ Kept F w w' ∧ ∀ x ∈ F', x ∈ F ∨ w.heap.size ≤ x
theorem rwrote_same {w w' : World} {rp n : Nat} {F : List Nat} {log : List RRow} (h : RefQ w rp F n log) (k : Below w.heap.size w w') : RWrote rp F n log w w' := ⟨F, h.below k, Kept.of_below k F, fun _ hx => .inl hx⟩
def goneR (r : RRow) : RRow := ⟨r.to_, r.frm, r.at_, r.seq, true⟩
def markL (log : List RRow) (a : Int) : List RRow := match log.findIdx? (waitsB a) with
  | some k => log.modify k goneR
  | none => log
def waitsL (log : List RRow) (a : Int) : Bool := (log.findIdx? (waitsB a)).isSome
theorem markL_len (log : List RRow) (a : Int) : (markL log a).length = log.length := by
  unfold markL
  split <;> simp
theorem rremove_calls (w : World) (rp : Nat) (F : List Nat) (n : Nat) (log : List RRow) (a : Int) (h : RefQ w rp F n log) :
    Calls Try.prog 87 #[.pointer (some ⟨rp, 0, none⟩), .int .i64 a] w fun e w' => e = .returned (.bool (waitsL log a)) ∧ RWrote rp F n (markL log a) w w' := by
  have HQ := Lib.hid h
  have HP := Lib.hid (place_calls w rp F n log a h)
  unfold waitsL markL
  cases hf : log.findIdx? (waitsB a) with
  | none =>
    rw [show placeV log a = -1 by unfold placeV; rw [hf]] at HP
    clear h hf
    go_enter Try.func87, Try.ntmps87
    go_wp2_with fail
    refine HP.out.mono ?_
    rintro e w1 ⟨rfl, rfl⟩
    go_wp2_with fail
    go_ret
    exact ⟨rfl, rwrote_same HQ.out (Below.refl _ _)⟩
  | some k =>
    rw [show placeV log a = k by unfold placeV; rw [hf]] at HP
    have hkl : k < log.length := by rw [List.findIdx?_eq_some_iff_getElem] at hf; exact hf.1
    obtain ⟨x, hx⟩ : ∃ x, log[k]? = some x := ⟨_, List.getElem?_eq_getElem hkl⟩
    obtain ⟨hd, h1, h2, h3⟩ := h.ex
    obtain ⟨g, c, rfl, hR⟩ : ∃ g c, hd = .slice (some ⟨g, 0, none⟩) log.length c ∧ Recs encR 5 w RT g c log := by
      rcases h2 with ⟨_, h0⟩ | h0
      · subst h0; simp at hkl
      · exact h0
    obtain ⟨hgF, hgp⟩ := h3 g rfl
    have c1 := h1.cell (o := 1) rfl
    obtain ⟨_, _, _, _, r4⟩ := rec5 hR hx
    have f4 := hR.free (k * 5 + 4)
    have hk0 : (0 : Int) ≤ (k : Int) := by omega
    have hk1 : (k : Int) < (log.length : Int) := by omega
    have hlen := h.len
    have HX := Lib.hid (And.intro hx (And.intro hR (And.intro h1 (And.intro hgF hgp))))
    clear h hf h1 h2 h3 hR hx hgF hgp
    go_enter Try.func87, Try.ntmps87
    go_wp2_with fail
    refine HP.out.mono ?_
    rintro e w1 ⟨rfl, rfl⟩
    go_wp2_with fail
    go_ret
    obtain ⟨hx, hR, h1, hgF, hgp⟩ := HX.out
    have hR' := hR.putCell encR_len (k := k) (j := 4) (y := goneR x) (v := .bool true) hx (by decide) rfl
    have hm : log.modify k goneR = log.set k (goneR x) := by
      apply List.ext_getElem?
      intro i
      rw [List.getElem?_modify, List.getElem?_set]
      by_cases e : k = i
      · subst e
        simp [hkl]
        rw [(List.getElem?_eq_some_iff.1 hx).2]
      · simp [e]
    refine ⟨rfl, F, ⟨⟨_, h1.other (a := ⟨g, k * 5 + 4, none⟩) (Ne.symm hgp) _, .inr ⟨g, c, by simp, by rw [hm]; exact hR'⟩, fun g' hg' => (by injection hg' with hg'; subst hg'; exact ⟨hgF, hgp⟩)⟩, HQ.out.ins, fun y hy => by have := HQ.out.flt y hy; simpa using this, by simp; omega⟩, (Kept.refl F w).setCell (p := ⟨g, k * 5 + 4, none⟩) (.inl hgF) _, fun y hy => .inl hy⟩
def rtakeV (log : List RRow) (k : Int) : Option RRow := (allL log k).head?
def rtakeL (log : List RRow) (k : Int) : List RRow := match rtakeV log k with
  | some x => markL log x.at_
  | none => log
def rwV : Option RRow → Value
  | some x => .agg #[.int .i64 x.to_, .int .i64 x.frm, .int .i64 x.at_, .int .i64 x.seq, .bool x.gone]
  | none => .agg #[.int .i64 0, .int .i64 0, .int .i64 0, .int .i64 0, .bool false]
theorem results_cell_rec5 {P : Program} {fn : Func} {p u : Tmp} {ty : TypeId} (h : fn.results = #[.cell p ty, .tmp u]) (tmps : Array Value) (w : World) (g : Nat) (t : TypeId) (cs : Array Value) (d : TypeDesc) (hp : tmps.getD p undef = .pointer (some ⟨g, 0, none⟩)) (hg : Blk w g cs t)
    (hu : P.underlying ty = some d) (hd : (match d with | .struct _ | .array _ _ => true | _ => false) = true) (hi : (P.info? ty).map (·.size) = some cs.size) (v : Value) (hv : tmps.getD u undef = v) :
    (results fn tmps).run P w = .ok (.tuple #[.agg cs, v]) w := results_cell_rec h tmps w g t cs d hp hg hu hd hi v hv
theorem set5 {w : World} {q : Nat} {v0 v1 v2 v3 v4 : Value} (h : Blk w q #[.int .i64 0, .int .i64 0, .int .i64 0, .int .i64 0, .bool false] RT) :
    Blk (((((w.setCell ⟨q, 0, none⟩ v0).setCell ⟨q, 1, none⟩ v1).setCell ⟨q, 2, none⟩ v2).setCell ⟨q, 3, none⟩ v3).setCell ⟨q, 4, none⟩ v4) q #[v0, v1, v2, v3, v4] RT :=
  ((((h.set 0 v0).set 1 v1).set 2 v2).set 3 v3).set 4 v4
theorem kept5 {w : World} {q : Nat} {F : List Nat} {a : World} (h : Kept F a w) (hq : q ∈ F ∨ a.heap.size ≤ q) (v0 v1 v2 v3 v4 : Value) :
    Kept F a (((((w.setCell ⟨q, 0, none⟩ v0).setCell ⟨q, 1, none⟩ v1).setCell ⟨q, 2, none⟩ v2).setCell ⟨q, 3, none⟩ v3).setCell ⟨q, 4, none⟩ v4) :=
  ((((h.setCell (p := ⟨q, 0, none⟩) hq v0).setCell (p := ⟨q, 1, none⟩) hq v1).setCell (p := ⟨q, 2, none⟩) hq v2).setCell (p := ⟨q, 3, none⟩) hq v3).setCell (p := ⟨q, 4, none⟩) hq v4
set_option maxHeartbeats 4000000 in
theorem rtake_none (w : World) (rp : Nat) (F : List Nat) (n : Nat) (log : List RRow) (k : Int) (h : RefQ w rp F n log) (hr : allL log k = []) :
    Calls Try.prog 85 #[.pointer (some ⟨rp, 0, none⟩), .int .i64 k] w fun e w' => e = .returned (.tuple #[.agg #[.int .i64 0, .int .i64 0, .int .i64 0, .int .i64 0, .bool false], .bool false]) ∧ RWrote rp F n log w w' := by
  have hb1 := (Below.refl w.heap.size w).alloc (Nat.le_refl _) (.cells #[.int .i64 0, .int .i64 0, .int .i64 0, .int .i64 0, .bool false] RT)
  have hq := Blk.new w #[.int .i64 0, .int .i64 0, .int .i64 0, .int .i64 0, .bool false] RT
  have HQ := Lib.hid h
  have HW := Lib.hid (rall_calls _ rp F n log k (h.below hb1))
  rw [hr] at HW
  have HB1 := Lib.hid hb1
  have HBq := Lib.hid hq
  clear h hb1 hq hr
  go_enter Try.func85, Try.ntmps85
  go_upto_region 1 with fail
  generalize w.alloc (.cells #[.int .i64 0, .int .i64 0, .int .i64 0, .int .i64 0, .bool false] RT) = w1 at HB1 HBq HW ⊢
  obtain ⟨q, hqq⟩ : ∃ q, q = w.heap.size := ⟨_, rfl⟩
  rw [← hqq] at HBq ⊢
  have HWq := Lib.hid (Nat.le_of_eq hqq.symm)
  clear hqq
  go_wp2_with fail
  refine HW.out.mono ?_
  rintro e w2 ⟨hd, rfl, hH, hgF, hb2⟩
  have HB2 := Lib.hid (below_then HB1.out hb2)
  have HBq2 := Lib.hid (HBq.out.below hb2)
  obtain ⟨A, c, rfl⟩ := hH.shape
  clear hH hgF HW hb2 HB1 HBq
  have b0 := HBq2.out.cell (o := 0) rfl
  have b1 := HBq2.out.cell (o := 1) rfl
  have b2 := HBq2.out.cell (o := 2) rfl
  have b3 := HBq2.out.cell (o := 3) rfl
  have b4 := HBq2.out.cell (o := 4) rfl
  have bf0 := HBq2.out.free 0
  have bf1 := HBq2.out.free 1
  have bf2 := HBq2.out.free 2
  have bf3 := HBq2.out.free 3
  have bf4 := HBq2.out.free 4
  go_wp2_with fail
  refine bodyPost_ret_by (results_cell_rec5 rfl _ _ q RT _ _ rfl (set5 HBq2.out) Try.underlying105 rfl sizeR _ rfl) rfl ?_
  have hb3 := below_kept HB2.out (kept5 (F := [q]) (Kept.refl [q] w2) (.inl (List.mem_singleton.2 rfl)) (.int .i64 0) (.int .i64 0) (.int .i64 0) (.int .i64 0) (.bool false)) HB2.out.size (by simpa using HWq.out)
  exact ⟨rfl, rwrote_same HQ.out hb3⟩
set_option maxHeartbeats 4000000 in
theorem rtake_yes (w : World) (rp : Nat) (F : List Nat) (n : Nat) (log : List RRow) (k : Int) (x : RRow) (r : List RRow) (h : RefQ w rp F n log) (hr : allL log k = x :: r) :
    Calls Try.prog 85 #[.pointer (some ⟨rp, 0, none⟩), .int .i64 k] w fun e w' => e = .returned (.tuple #[.agg #[.int .i64 x.to_, .int .i64 x.frm, .int .i64 x.at_, .int .i64 x.seq, .bool x.gone], .bool true]) ∧ RWrote rp F n (markL log x.at_) w w' := by
  have hb1 := (Below.refl w.heap.size w).alloc (Nat.le_refl _) (.cells #[.int .i64 0, .int .i64 0, .int .i64 0, .int .i64 0, .bool false] RT)
  have hq := Blk.new w #[.int .i64 0, .int .i64 0, .int .i64 0, .int .i64 0, .bool false] RT
  have HQ1 := Lib.hid (h.below hb1)
  have HW := Lib.hid (rall_calls _ rp F n log k (h.below hb1))
  rw [hr] at HW
  have HB1 := Lib.hid hb1
  have HBq := Lib.hid hq
  have HqF := Lib.hid (show w.heap.size ∉ F from fun hx => by have := h.flt _ hx; omega)
  have hlen : r.length ≤ 100000 := by
    have h1 := h.len
    have h2 := List.length_filter_le (forB k) log
    have h3 : (allL log k).length = r.length + 1 := by rw [hr]; rfl
    unfold allL at h3
    omega
  clear h hb1 hq hr
  go_enter Try.func85, Try.ntmps85
  go_upto_region 1 with fail
  generalize w.alloc (.cells #[.int .i64 0, .int .i64 0, .int .i64 0, .int .i64 0, .bool false] RT) = w1 at HB1 HQ1 HBq HW ⊢
  obtain ⟨q, hqq⟩ : ∃ q, q = w.heap.size := ⟨_, rfl⟩
  rw [← hqq] at HBq HqF ⊢
  have HWq := Lib.hid (Nat.le_of_eq hqq.symm)
  clear hqq
  go_wp2_with fail
  refine HW.out.mono ?_
  rintro e w2 ⟨hd, rfl, hH, hgF, hb2⟩
  obtain ⟨g, c, rfl, hR⟩ : ∃ g c, hd = .slice (some ⟨g, 0, none⟩) (x :: r).length c ∧ Recs encR 5 w2 RT g c (x :: r) := by
    rcases hH with ⟨_, h0⟩ | h0
    · cases h0
    · exact h0
  have HG := Lib.hid (show w1.heap.size ≤ g from hgF g rfl)
  have HB2 := Lib.hid (below_then HB1.out hb2)
  have HBq2 := Lib.hid (HBq.out.below hb2)
  have HQ2 := Lib.hid (HQ1.out.below hb2)
  have HgF := Lib.hid (show g ∉ F ∧ g ≠ q from ⟨fun hx => by have := HQ1.out.flt _ hx; have := HG.out; omega, by have := HBq.out.lt; have := HG.out; omega⟩)
  have HR := Lib.hid hR
  obtain ⟨_, _, r2, _, _⟩ := rec5 hR (k := 0) (x := x) rfl
  rw [List.length_cons] at ⊢
  rw [Nat.zero_mul] at r2
  have hn0 : (((r.length + 1 : Nat) : Int) == 0) = false := beq_eq_false_iff_ne.2 (by omega)
  have hn1 : (0 : Int) < ((r.length + 1 : Nat) : Int) := by omega
  clear hH hgF HW hR hb2 HQ1 HB1 HBq
  have HRm := Lib.hid (rremove_calls w2 rp F n log x.at_ HQ2.out)
  generalize waitsL log x.at_ = wl at HRm
  go_wp2_with fail
  refine HRm.out.mono ?_
  rintro e w3 ⟨rfl, F', hQ3, hk3, hF3⟩
  have hR3 := HR.out.kept hk3 HgF.out.1
  obtain ⟨s0, s1, s2, s3, s4⟩ := rec5 hR3 (k := 0) (x := x) rfl
  rw [Nat.zero_mul] at s0 s1 s2 s3 s4
  have hq3 := HBq2.out.kept hk3 HqF.out
  have b0 := hq3.cell (o := 0) rfl
  have b1 := hq3.cell (o := 1) rfl
  have b2 := hq3.cell (o := 2) rfl
  have b3 := hq3.cell (o := 3) rfl
  have b4 := hq3.cell (o := 4) rfl
  have bf0 := hq3.free 0
  have bf1 := hq3.free 1
  have bf2 := hq3.free 2
  have bf3 := hq3.free 3
  have bf4 := hq3.free 4
  have H3 := Lib.hid (And.intro hQ3 (And.intro hk3 (And.intro hF3 hq3)))
  clear hQ3 hk3 hF3 hR3 hq3 r2
  go_wp2_with fail
  refine bodyPost_ret_by (results_cell_rec5 rfl _ _ q RT _ _ rfl (set5 H3.out.2.2.2) Try.underlying105 rfl sizeR _ rfl) rfl ?_
  obtain ⟨hQ3, hk3, hF3, hq3⟩ := H3.out
  refine ⟨rfl, F', hQ3.kept (kept5 (F := [q]) (Kept.refl [q] w3) (.inl (List.mem_singleton.2 rfl)) _ _ _ _ _) fun y hy => ?_, kept5 ((Kept.of_below HB2.out F).trans hk3) (.inr HWq.out) _ _ _ _ _, fun y hy => ?_⟩
  · have hlt := HBq2.out.lt
    rcases hF3 y hy with h | h
    · simp; intro e; exact HqF.out (e ▸ h)
    · simp; omega
  · rcases hF3 y hy with h | h
    · exact .inl h
    · exact .inr (Nat.le_trans HB2.out.size h)
theorem rtake_calls (w : World) (rp : Nat) (F : List Nat) (n : Nat) (log : List RRow) (k : Int) (h : RefQ w rp F n log) :
    Calls Try.prog 85 #[.pointer (some ⟨rp, 0, none⟩), .int .i64 k] w fun e w' => e = .returned (.tuple #[rwV (rtakeV log k), .bool (rtakeV log k).isSome]) ∧ RWrote rp F n (rtakeL log k) w w' := by
  unfold rtakeL
  cases hr : allL log k with
  | nil =>
    rw [show rtakeV log k = none by unfold rtakeV; rw [hr]; rfl]
    exact rtake_none w rp F n log k h hr
  | cons x r =>
    rw [show rtakeV log k = some x by unfold rtakeV; rw [hr]; rfl]
    exact rtake_yes w rp F n log k x r h hr
def sameB (x : It) (y : RRow) : Bool := x.frm == y.frm && (x.at_ == y.at_ && x.seq == y.seq)
theorem same_calls (w : World) (x : It) (y : RRow) :
    Calls Try.prog 86 #[.agg #[.int .i64 x.frm, .int .i64 x.at_, .int .i64 x.seq], .agg #[.int .i64 y.to_, .int .i64 y.frm, .int .i64 y.at_, .int .i64 y.seq, .bool y.gone]] w fun e w' => e = .returned (.bool (sameB x y)) ∧ Below w.heap.size w w' := by
  have hb := ((Below.refl w.heap.size w).alloc (Nat.le_refl _) (.cells #[.int .i64 x.frm, .int .i64 x.at_, .int .i64 x.seq] IT))
  have hb2 := hb.alloc hb.size (.cells #[.int .i64 y.to_, .int .i64 y.frm, .int .i64 y.at_, .int .i64 y.seq, .bool y.gone] RT)
  have HB := Lib.hid hb2
  unfold sameB
  clear hb hb2
  by_cases e1 : x.frm = y.frm
  · by_cases e2 : x.at_ = y.at_
    · rw [show (x.frm == y.frm) = true by simpa using e1, show (x.at_ == y.at_) = true by simpa using e2]
      have n1 : (x.frm == y.frm) = true := by simpa using e1
      have n2 : (x.at_ == y.at_) = true := by simpa using e2
      clear e1 e2
      go_enter Try.func86, Try.ntmps86
      go_wp2_with fail
      go_ret
      exact ⟨by simp, HB.out⟩
    · have n2 : (x.at_ == y.at_) = false := by simpa using e2
      have n1 : (x.frm == y.frm) = true := by simpa using e1
      rw [n1, n2]
      clear e1 e2
      go_enter Try.func86, Try.ntmps86
      go_wp2_with fail
      go_ret
      exact ⟨by simp, HB.out⟩
  · have n1 : (x.frm == y.frm) = false := by simpa using e1
    rw [n1]
    clear e1
    go_enter Try.func86, Try.ntmps86
    go_wp2_with fail
    go_ret
    exact ⟨by simp, HB.out⟩
end Go.Proofs.Ytchnhmcedmicgaa.Rem
