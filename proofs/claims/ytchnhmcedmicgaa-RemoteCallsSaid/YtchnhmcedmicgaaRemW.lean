/- The contract of package remote's Each: the function that it hands back tells what waits, worker by worker, off a clone. -/
import Derived.Test.YtchnhmcedmicgaaRemV
import Derived.RangeFuncNested
import Derived.RangeFuncBound
import Derived.RangeFuncCalls
import Derived.RangeFuncLeaves
import Derived.Shelf.Abstract
import Derived.Shelf.RegionOpen
import Derived.OwnWalkIn
import Derived.TacticsInMore
import Derived.LoopNIn
import Derived.LoopIn
set_option linter.unusedSimpArgs false
namespace Go.Proofs.Ytchnhmcedmicgaa.Rem
open Go.RowKit Go.Proofs.Ytchnhmcedmicgaa.Aid
/-- The block of the slice that a box holds. -/
def ownB (b : Nat) (W : World) : Option Nat := (W.cell? ⟨b, 0, none⟩).bind Value.ownBlock
/-- What a round keeps: each block of cells but the boxes Bs and the one that box bl's slice fills; that slice's block is the old one or a new one. -/
structure KpL (Bs : List Nat) (bl : Nat) (W W' : World) : Prop where
  size : W.heap.size ≤ W'.heap.size
  keep : ∀ i, i < W.heap.size → i ∉ Bs → ownB bl W ≠ some i → (∃ o : Obj, W.heap[i]? = some o ∧ o.isCells = true) → W'.heap[i]? = W.heap[i]?
  own : ∀ g, ownB bl W' = some g → ownB bl W = some g ∨ W.heap.size ≤ g
theorem KpL.trans {Bs : List Nat} {bl : Nat} {A B C : World} (h : KpL Bs bl A B) (k : KpL Bs bl B C) : KpL Bs bl A C := by
  have hx : ∀ i, i < A.heap.size → ownB bl A ≠ some i → ownB bl B ≠ some i := fun i hi hn e => by
    rcases h.own i e with e | e
    · exact hn e
    · omega
  refine ⟨Nat.le_trans h.size k.size, fun i hi hb hn ho => ?_, fun g hg => ?_⟩
  · have e := h.keep i hi hb hn ho
    exact (k.keep i (Nat.lt_of_lt_of_le hi h.size) hb (hx i hi hn) (by rw [e]; exact ho)).trans e
  · rcases k.own g hg with e | e
    · exact h.own g e
    · exact .inr (Nat.le_trans h.size e)
theorem cell_of_heap {W W' : World} {b : Nat} (h : W'.heap[b]? = W.heap[b]?) (o : Nat) : W'.cell? ⟨b, o, none⟩ = W.cell? ⟨b, o, none⟩ := by
  unfold World.cell?
  rw [show W'.heap[b]? = W.heap[b]? from h]
theorem KpL.of_below {Bs : List Nat} {bl : Nat} {W W' : World} (h : Below W.heap.size W W') (hl : bl < W.heap.size) : KpL Bs bl W W' := by
  refine ⟨h.size, fun i hi _ _ _ => h.block i hi, fun g hg => .inl ?_⟩
  unfold ownB at hg ⊢
  rwa [cell_of_heap (h.block bl hl)] at hg
theorem KpL.put {Bs : List Nat} {bl : Nat} {W : World} {l : Nat} {o o' : Obj} (h : W.heap[l]? = some o) (hc : o.isCells = false) (hl : l ≠ bl) : KpL Bs bl W (W.putObj l o') := by
  refine ⟨by simp, fun i hi _ _ ⟨o2, h2, h3⟩ => World.putObj_heap_other (fun e => ?_), fun g hg => .inl ?_⟩
  · subst e; rw [h] at h2; injection h2 with h2; subst h2; rw [hc] at h3; cases h3
  · unfold ownB at hg ⊢
    rwa [cell_of_heap (World.putObj_heap_other (fun e => hl e.symm))] at hg
theorem grown_of_below {W W' : World} (h : Below W.heap.size W W') : W.grownBy W' none := ⟨h.os, h.tape, h.output, h.size, fun k hk _ => h.block k hk⟩
/-- Rows of items, all in blocks from lo on. -/
structure RowsIn (lo : Nat) (w : World) (rb n : Nat) (hs : List Value) (s : QRun) : Prop where
  rows : Row w ST rb n hs
  hlen : hs.length = n
  each : ∀ (k : Nat) hd, hs[k]? = some hd → Hdr encI 3 w IT hd (row s k)
  ge : lo ≤ rb
  gel : ∀ (k : Nat) hd g, hs[k]? = some hd → hd.ownBlock = some g → lo ≤ g
theorem RowsIn.kept {lo : Nat} {w w' : World} {rb n : Nat} {hs : List Value} {s : QRun} {Bs : List Nat} {bl : Nat} (h : RowsIn lo w rb n hs s) (k : KpL Bs bl w w') (hB : ∀ b ∈ Bs, b < lo) (ho : ∀ g, ownB bl w = some g → g < lo) : RowsIn lo w' rb n hs s := by
  have hk : ∀ i, lo ≤ i → i < w.heap.size → (∃ o : Obj, w.heap[i]? = some o ∧ o.isCells = true) → w'.heap[i]? = w.heap[i]? := fun i h1 h2 h3 =>
    k.keep i h2 (fun hb => by have := hB i hb; omega) (fun e => by have := ho i e; omega) h3
  refine ⟨h.rows.block (hk rb h.ge h.rows.lt ?_), h.hlen, fun j hd hj => ?_, h.ge, h.gel⟩
  · rcases h.rows.2 with ⟨e, _⟩ | ⟨g, cap, cur, e, _, hb, _⟩
    · cases e
    · obtain ⟨rfl, _⟩ : rb = g ∧ n = cap := by simpa using e
      exact ⟨_, hb, rfl⟩
  · rcases h.each j hd hj with e | ⟨g, c, rfl, hr⟩
    · exact .inl e
    · refine .inr ⟨g, c, rfl, hr.same (hk g (h.gel j _ g hj rfl) hr.lt ?_)⟩
      obtain ⟨cur, hb, _⟩ := hr.blk
      exact ⟨_, hb, rfl⟩
theorem each_calls (w : World) (p : Nat) :
    Calls Try.prog 63 #[.pointer (some ⟨p, 0, none⟩)] w fun e w' => e = .returned (.func (.func 91) #[] #[.pointer (some ⟨w.heap.size, 0, none⟩)]) ∧ w' = w.alloc (.cells #[.pointer (some ⟨p, 0, none⟩)] 81) := by
  go_enter Try.func63, Try.ntmps63
  go_wp2
  go_ret
  exact ⟨rfl, rfl⟩
def encE (x : Nat × It) : Array Value := #[.int .i64 (x.1 : Nat), .agg #[.int .i64 x.2.frm, .int .i64 x.2.at_, .int .i64 x.2.seq]]
/-- What has been told when k workers are over, and j items of the next. -/
def toldE (s : QRun) (k j : Nat) : List (Nat × It) := eachTo s k ++ ((row s k).take j).map fun x => (k, x)
theorem toldE_zero (s : QRun) (k : Nat) : toldE s k 0 = eachTo s k := by unfold toldE; simp
theorem toldE_all (s : QRun) (k : Nat) : toldE s k (row s k).length = eachTo s (k + 1) := by unfold toldE; rw [List.take_of_length_le (Nat.le_refl _), eachTo_succ]
theorem toldE_succ {s : QRun} {k j : Nat} {x : It} (h : (row s k)[j]? = some x) : toldE s k (j + 1) = toldE s k j ++ [(k, x)] := by
  obtain ⟨hj, rfl⟩ := List.getElem?_eq_some_iff.1 h
  unfold toldE
  rw [List.take_succ_eq_append_getElem hj, List.map_append, List.append_assoc]
  rfl
theorem eachTo_pre (s : QRun) : ∀ (d k : Nat), eachTo s k <+: eachTo s (k + d)
  | 0, k => List.prefix_refl _
  | d + 1, k => (eachTo_pre s d k).trans (by rw [← Nat.add_assoc, eachTo_succ]; exact List.prefix_append _ _)
theorem toldE_pre {s : QRun} {n k : Nat} (hk : k < n) (j : Nat) : toldE s k j <+: eachTo s n := by
  refine List.IsPrefix.trans ?_ (by have := eachTo_pre s (n - (k + 1)) (k + 1); rwa [show k + 1 + (n - (k + 1)) = n by omega] at this)
  rw [eachTo_succ]
  unfold toldE
  rw [List.prefix_append_right_inj]
  rw [← List.take_append_drop j (row s k), List.map_append, List.take_append_drop]
  exact List.prefix_append _ _
theorem toldE_len {s : QRun} {n k j : Nat} {x : It} (hk : k < n) (h : (row s k)[j]? = some x) : (toldE s k j).length < (eachTo s n).length := by
  have h1 := (toldE_pre (s := s) hk (j + 1)).length_le
  rw [toldE_succ h, List.length_append, List.length_singleton] at h1
  omega
set_option maxHeartbeats 8000000 in
theorem each1_calls (d : Nat) (w0 : World) (p : Nat) (F : List Nat) (n m : Nat) (s : QRun) (bq bl : Nat) (Bs : List Nat) (h : QAt w0 p F n m s) (hq : Blk w0 bq #[.pointer (some ⟨p, 0, none⟩)] 81) (hB : ∀ b ∈ Bs, b < w0.heap.size) (hl : bl < w0.heap.size) (ho : ∀ g, ownB bl w0 = some g → g < w0.heap.size) (hd : 1 ≤ d) :
    SeqStopsK Fence.wide d Try.prog 91 #[.pointer (some ⟨bq, 0, none⟩)] encE (KpL Bs bl) (fun ys => ys = eachTo s n) (fun pre => pre <+: eachTo s n) (eachTo s n).length w0 := by
  intro l J Jx W hW hJ hJx hY h0
  have HQ := Lib.hid (h.below hW)
  have cq := (hq.below hW).cell (o := 0) rfl
  have hz := hW.size
  have HB := Lib.hid (fun b hb => Nat.lt_of_lt_of_le (hB b hb) hz)
  have HL := Lib.hid (Nat.lt_of_lt_of_le hl hz)
  have HO := Lib.hid (show ∀ g, ownB bl W = some g → g < W.heap.size from fun g hg => by
    unfold ownB at hg
    rw [cell_of_heap (hW.block bl hl)] at hg
    exact Nat.lt_of_lt_of_le (ho g hg) hz)
  have HC := Lib.hid (clone_calls W p F n m s HQ.out)
  have HJ := Lib.hid (fun (pre : List (Nat × It)) (A B : World) (hb : Below A.heap.size A B) (ha : J pre A) => hJ pre A B none ha (grown_of_below hb) (fun r e => by cases e))
  have HY := Lib.hid hY
  have H0 := Lib.hid h0
  clear h hq hB hl ho hW hJ hJx hY h0 hz
  refine callsIn_wide.2 ?_
  go_enter Try.func91, Try.ntmps91
  go_wp2_with fail
  refine HC.out.mono ?_
  rintro e w1 ⟨p', rfl, F', hQ1, hF1, hb1⟩
  obtain ⟨rb, wb, sb, hs, hP⟩ := hQ1.ex
  have c0 := hP.c0
  have HR := Lib.hid (show RowsIn W.heap.size w1 rb n hs s from ⟨hP.rows, hP.hlen, hP.each, hF1 _ hP.ins.2.1, fun k hd g a b => hF1 _ (hP.out k hd g a b).1⟩)
  have HJ1 := Lib.hid (HJ.out _ _ _ hb1 H0.out)
  have HO1 := Lib.hid (show ∀ g, ownB bl w1 = some g → g < W.heap.size from fun g hg => by
    unfold ownB at hg
    rw [cell_of_heap (hb1.block bl HL.out)] at hg
    exact HO.out g hg)
  have HL1 := Lib.hid (Nat.lt_of_lt_of_le HL.out hb1.size)
  have h64 := hQ1.ok.n64
  have HHl := Lib.hid hP.hlen
  have HFew := Lib.hid (show ∀ k, (row s k).length ≤ 100000 from fun k => Nat.le_trans (row_le_total k) (Nat.le_trans hQ1.ok.few hQ1.small))
  clear hQ1 hF1 hb1 hP HC H0 HQ HO cq
  go_wp2_with fail
  go_loopw [15] (fun i wr => ∃ (k : Nat), k ≤ n ∧ i = .int .i64 k ∧ J (eachTo s k) wr ∧ KpL Bs bl w1 wr) (fun i _ => n - (intOf i).toNat)
  case atStart => exact ⟨0, by omega, rfl, HJ1.out, KpL.of_below (Below.refl _ _) HL1.out⟩
  case round =>
    obtain ⟨k, hk, rfl, hj, hkp⟩ := hrel
    have HK := Lib.hid (And.intro hj hkp)
    clear hj hkp
    by_cases hlt : k < n
    · have hrow := HR.out.kept HK.out.2 HB.out HO1.out
      obtain ⟨hd, hk1⟩ : ∃ hd, hs[k]? = some hd := ⟨_, List.getElem?_eq_getElem (by rw [HHl.out]; exact hlt)⟩
      have hcell : wr.cell? ⟨rb, k, none⟩ = some hd := by rw [hrow.rows.cell (by rw [hrow.hlen]; exact hlt), hk1]
      obtain ⟨A, c, rfl⟩ := (hrow.each k hd hk1).shape
      have HK1 := Lib.hid hk1
      have hk0 : (0 : Int) ≤ (k : Int) := by omega
      have hkn : (k : Int) < (n : Int) := by omega
      have hfew := HFew.out k
      clear hrow hk1
      go_wp2_with fail
      go_loopw [22] (fun i wr => ∃ (j : Nat), j ≤ (row s k).length ∧ i = .int .i64 j ∧ J (toldE s k j) wr ∧ KpL Bs bl w1 wr) (fun i _ => (row s k).length - (intOf i).toNat)
      case atStart => exact ⟨0, by omega, rfl, by rw [toldE_zero]; exact HK.out.1, HK.out.2⟩
      case round =>
        obtain ⟨j, hj, rfl, hJk, hkp⟩ := hrel
        have HK2 := Lib.hid (And.intro hJk hkp)
        clear hJk hkp HK hcell c0
        by_cases hjt : j < (row s k).length
        · obtain ⟨x, hx⟩ : ∃ x, (row s k)[j]? = some x := ⟨_, List.getElem?_eq_getElem hjt⟩
          have hrow := HR.out.kept HK2.out.2 HB.out HO1.out
          obtain ⟨g, c', hgc, hRe⟩ := Hdr.recs_of (hrow.each k _ HK1.out) hx
          obtain ⟨r0, r1, r2⟩ := rec_cells hRe hx
          have e1 := congrArg (fun v => match v with | Value.slice A _ _ => A | _ => none) hgc
          simp only at e1
          subst e1
          have hj0 : (0 : Int) ≤ (j : Int) := by omega
          have hjn : (j : Int) < ((row s k).length : Int) := by omega
          have HX := Lib.hid hx
          clear hrow hgc hRe hx
          go_upto_region 7 with fail
          have hal := (Below.refl wr.heap.size wr).alloc (Nat.le_refl _) (.cells #[.int .i64 x.frm, .int .i64 x.at_, .int .i64 x.seq] IT)
          have hbx := Blk.new wr #[.int .i64 x.frm, .int .i64 x.at_, .int .i64 x.seq] IT
          have b0 : (wr.alloc (.cells #[.int .i64 x.frm, .int .i64 x.at_, .int .i64 x.seq] IT)).cell? ⟨wr.heap.size, 0, none⟩ = some (.int .i64 x.frm) := hbx.cell (o := 0) rfl
          have b1 : (wr.alloc (.cells #[.int .i64 x.frm, .int .i64 x.at_, .int .i64 x.seq] IT)).cell? ⟨wr.heap.size, 1, none⟩ = some (.int .i64 x.at_) := hbx.cell (o := 1) rfl
          have b2 : (wr.alloc (.cells #[.int .i64 x.frm, .int .i64 x.at_, .int .i64 x.seq] IT)).cell? ⟨wr.heap.size, 2, none⟩ = some (.int .i64 x.seq) := hbx.cell (o := 2) rfl
          have HJa := Lib.hid (HJ.out _ _ _ hal HK2.out.1)
          have HKa := Lib.hid (HK2.out.2.trans (KpL.of_below (Bs := Bs) hal (Nat.lt_of_lt_of_le HL1.out HK2.out.2.size)))
          generalize wr.alloc (.cells #[.int .i64 x.frm, .int .i64 x.at_, .int .i64 x.seq] IT) = wx at hal hbx b0 b1 b2 HJa HKa ⊢
          generalize wr.heap.size = xq at hbx b0 b1 b2 ⊢
          clear hal hbx r0 r1 r2
          obtain ⟨fn, tmps, assign, body, hy, hR⟩ := HY.out (toldE s k j) (k, x) wx HJa.out (toldE_len hlt HX.out)
          unfold encE at hy
          dsimp only at hy
          refine wpIn_wide (n := d) |>.1 ?_
          gi_wp2
          refine hR.mono ?_
          rintro e W3 (⟨rfl, hJ3, hk3⟩ | ⟨rfl, hJx3⟩)
          · gi_wp2
            go_wp2_with fail
            go_roundw
            case rel => exact ⟨j + 1, by omega, by go_num, by rw [toldE_succ HX.out]; exact hJ3, HKa.out.trans hk3⟩
            case measure => simp [intOf]; omega
          · gi_wp2
            go_wp2_with fail
            refine bodyPost_ret (results_none rfl _ _ _) rfl ?_
            exact ⟨⟨_, rfl⟩, .inr ⟨_, by rw [← toldE_succ HX.out]; exact toldE_pre hlt _, hJx3⟩⟩
        · obtain rfl : j = (row s k).length := by omega
          go_wp2_with fail
          go_roundw
          case rel => exact ⟨k + 1, by omega, by go_num, by rw [← toldE_all]; exact HK2.out.1, HK2.out.2⟩
          case measure => simp [intOf]; omega
    · obtain rfl : k = n := by omega
      go_wp2_with fail
      go_end0
      exact ⟨⟨_, rfl⟩, .inl ⟨_, rfl, HK.out.1⟩⟩
end Go.Proofs.Ytchnhmcedmicgaa.Rem
