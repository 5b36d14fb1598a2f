/- The contract of package ring's Each: the function that it hands back tells a list's items as they are when it begins, whatever is written meanwhile to blocks that are not its own. -/
import Derived.Test.YtldlogmjkbhomaaRngK
import Derived.Test.YtldlogmjkbhomaaAidRound
import Derived.RangeFuncNested
import Derived.RangeFuncBound
import Derived.RangeFuncCalls
import Derived.RangeFuncLeaves
import Derived.Shelf.Abstract
import Derived.Shelf.RegionOpen
import Derived.OwnWalkIn
import Derived.TacticsInMore
import Derived.LoopNIn
import Derived.LoopIn
import Derived.Sort.CutIn
set_option linter.unusedSimpArgs false
namespace Go.Proofs.Ytldlogmjkbhomaa.Rng
open Go.RowKit Go.Proofs.Ytldlogmjkbhomaa.Aid
/-- The block of the slice that a box holds. -/
def ownB (b : Nat) (W : World) : Option Nat := (W.cell? ⟨b, 0, none⟩).bind Value.ownBlock
/-- The blocks of the document's lists in block q: the row of headers, and each header's own. -/
def ownQ (q : Nat) (W : World) (i : Nat) : Prop := ∃ lb n c, W.cell? ⟨q, 1, none⟩ = some (.slice (some ⟨lb, 0, none⟩) n c) ∧ (i = lb ∨ ∃ k, k < n ∧ (W.cell? ⟨lb, k, none⟩).bind Value.ownBlock = some i)
/-- The row of headers lies in a block of cells. -/
def wellQ (q : Nat) (W : World) : Prop := ∀ lb n c, W.cell? ⟨q, 1, none⟩ = some (.slice (some ⟨lb, 0, none⟩) n c) → ∃ o : Obj, W.heap[lb]? = some o ∧ o.isCells = true
def own2 (bl q : Nat) (W : World) (i : Nat) : Prop := ownB bl W = some i ∨ ownQ q W i
/-- What a round keeps: each block of cells but those of Bs, and those that the two own; what they own behind it is old property or new. -/
structure KpI (Bs : List Nat) (bl q : Nat) (W W' : World) : Prop where
  well : wellQ q W'
  keep : ∀ i, i < W.heap.size → i ∉ Bs → ¬ own2 bl q W i → (∃ o : Obj, W.heap[i]? = some o ∧ o.isCells = true) → W'.heap[i]? = W.heap[i]?
  own : ∀ g, own2 bl q W' g → own2 bl q W g ∨ W.heap.size ≤ g
structure KpO (Bs : List Nat) (bl q : Nat) (W W' : World) : Prop where
  size : W.heap.size ≤ W'.heap.size
  more : wellQ q W → KpI Bs bl q W W'
theorem KpO.refl (Bs : List Nat) (bl q : Nat) (W : World) : KpO Bs bl q W W := ⟨Nat.le_refl _, fun h => ⟨h, fun _ _ _ _ _ => rfl, fun _ hg => .inl hg⟩⟩
theorem KpO.trans {Bs : List Nat} {bl q : Nat} {A B C : World} (h : KpO Bs bl q A B) (k : KpO Bs bl q B C) : KpO Bs bl q A C := by
  refine ⟨Nat.le_trans h.size k.size, fun hw => ?_⟩
  have h1 := h.more hw
  have k1 := k.more h1.well
  refine ⟨k1.well, fun i hi hb hn ho => ?_, fun g hg => ?_⟩
  · have e := h1.keep i hi hb hn ho
    refine (k1.keep i (Nat.lt_of_lt_of_le hi h.size) hb (fun e2 => ?_) (by rw [e]; exact ho)).trans e
    rcases h1.own i e2 with e3 | e3
    · exact hn e3
    · omega
  · rcases k1.own g hg with e | e
    · exact h1.own g e
    · exact .inr (Nat.le_trans h.size e)
theorem KpO.undrew {Bs : List Nat} {bl q : Nat} {W W' : World} (h : KpO Bs bl q W.drew W') : KpO Bs bl q W W' := ⟨h.size, fun hw => ⟨(h.more hw).well, (h.more hw).keep, (h.more hw).own⟩⟩
theorem cell_of_heap {W W' : World} {b : Nat} (h : W'.heap[b]? = W.heap[b]?) (o : Nat) : W'.cell? ⟨b, o, none⟩ = W.cell? ⟨b, o, none⟩ := by
  unfold World.cell?
  rw [show W'.heap[b]? = W.heap[b]? from h]
theorem KpO.put {Bs : List Nat} {bl q : Nat} {W : World} {l : Nat} {o o' : Obj} (h : W.heap[l]? = some o) (hc : o.isCells = false) (hl : l ≠ bl) (hq : l ≠ q) : KpO Bs bl q W (W.putObj l o') := by
  have hs : ∀ b, b ≠ l → ∀ k, (W.putObj l o').cell? ⟨b, k, none⟩ = W.cell? ⟨b, k, none⟩ := fun b hb k => cell_of_heap (World.putObj_heap_other (fun e => hb e)) k
  refine ⟨by simp, fun hw => ⟨fun lb n c e => ?_, fun i hi _ _ ⟨o2, h2, h3⟩ => World.putObj_heap_other (fun e => ?_), fun g hg => .inl ?_⟩⟩
  · rw [hs q (fun e => hq e.symm)] at e
    obtain ⟨o2, h2, h3⟩ := hw lb n c e
    refine ⟨o2, (World.putObj_heap_other (fun e => ?_)).trans h2, h3⟩
    subst e; rw [h] at h2; injection h2 with h2; subst h2; rw [hc] at h3; cases h3
  · subst e; rw [h] at h2; injection h2 with h2; subst h2; rw [hc] at h3; cases h3
  · rcases hg with hg | ⟨lb, n, c, e, hg⟩
    · refine .inl ?_
      unfold ownB at hg ⊢
      rwa [hs bl (fun e => hl e.symm)] at hg
    · rw [hs q (fun e => hq e.symm)] at e
      obtain ⟨o2, h2, h3⟩ := hw lb n c e
      have hlb : lb ≠ l := by
        rintro rfl
        rw [h] at h2; injection h2 with h2; subst h2; rw [hc] at h3; cases h3
      refine .inr ⟨lb, n, c, e, ?_⟩
      rcases hg with hg | ⟨k, hk, hg⟩
      · exact .inl hg
      · refine .inr ⟨k, hk, ?_⟩
        rwa [hs lb hlb] at hg
/-- What the two own is as it was behind a call that leaves old memory alone. -/
theorem own2_below {bl q : Nat} {A B : World} (h : Below A.heap.size A B) (hw : wellQ q A) (hbl : bl < A.heap.size) (hq : q < A.heap.size) : wellQ q B ∧ ∀ g, own2 bl q B g → own2 bl q A g := by
  have hs : ∀ b, b < A.heap.size → ∀ k, B.cell? ⟨b, k, none⟩ = A.cell? ⟨b, k, none⟩ := fun b hb k => cell_of_heap (h.block b hb) k
  refine ⟨fun lb n c e => ?_, fun g hg => ?_⟩
  · rw [hs q hq] at e
    obtain ⟨o, h1, h2⟩ := hw lb n c e
    exact ⟨o, (h.block lb (Array.getElem?_eq_some_iff.1 h1).1).trans h1, h2⟩
  · rcases hg with hg | ⟨lb, n, c, e, hg⟩
    · refine .inl ?_
      unfold ownB at hg ⊢
      rwa [hs bl hbl] at hg
    · rw [hs q hq] at e
      obtain ⟨o, h1, h2⟩ := hw lb n c e
      have hlb := (Array.getElem?_eq_some_iff.1 h1).1
      refine .inr ⟨lb, n, c, e, ?_⟩
      rcases hg with hg | ⟨k, hk, hg⟩
      · exact .inl hg
      · refine .inr ⟨k, hk, ?_⟩
        rwa [hs lb hlb] at hg
theorem grown_of_below {W W' : World} (h : Below W.heap.size W W') : W.grownBy W' none := ⟨h.os, h.tape, h.output, h.size, fun k hk _ => h.block k hk⟩
theorem each_calls (w : World) (p : Nat) (l : Int) :
    Calls Try.prog 43 #[.pointer (some ⟨p, 0, none⟩), .int .i64 l] w fun e w' => e = .returned (.func (.func 78) #[] #[.pointer (some ⟨w.heap.size, 0, none⟩), .pointer (some ⟨w.heap.size + 1, 0, none⟩)]) ∧ w' = (w.alloc (.cells #[.pointer (some ⟨p, 0, none⟩)] 57)).alloc (.cells #[.int .i64 l] IT) := by
  go_enter Try.func43, Try.ntmps43
  go_wp2
  go_ret
  exact ⟨rfl, rfl⟩
def encN (x : Nat) : Array Value := #[.int .i64 x]
theorem take_snoc {ls : List Nat} {k x : Nat} (h : ls[k]? = some x) : ls.take (k + 1) = ls.take k ++ [x] := by
  obtain ⟨hk, rfl⟩ := List.getElem?_eq_some_iff.1 h
  rw [List.take_succ_eq_append_getElem hk]
/-- The iterator's own slice behind some rounds. -/
theorem own_rounds {Bs : List Nat} {bl q base : Nat} {w w' : World} {v : Value} {xs : List Int} (h : Aid.Own w base IT .i64 v xs) (hw : wellQ q w) (k : KpO Bs bl q w w') (hB : ∀ b ∈ Bs, b < base) (ho : ∀ g, own2 bl q w g → g < base) : Aid.Own w' base IT .i64 v xs := by
  obtain ⟨h1, h2⟩ := h
  refine ⟨h1, ?_⟩
  rcases h2 with h2 | ⟨g, cap, cur, hv, hg, hh, r⟩
  · exact .inl h2
  · exact .inr ⟨g, cap, cur, hv, hg, ((k.more hw).keep g (Array.getElem?_eq_some_iff.1 hh).1 (fun hb => by have := hB g hb; omega) (fun e => by have := ho g e; omega) ⟨_, hh, rfl⟩).trans hh, r⟩
set_option maxHeartbeats 8000000 in
theorem each1_calls (d : Nat) (w0 : World) (p : Nat) (F : List Nat) (N L : Nat) (s : RgS) (l0 : Int) (bq bl q : Nat) (Bs : List Nat) (h : RngAt w0 p F N L s) (hq : Blk w0 bq #[.pointer (some ⟨p, 0, none⟩)] 57) (hq1 : Blk w0 (bq + 1) #[.int .i64 l0] IT) (hB : ∀ b ∈ Bs, b < w0.heap.size) (hl : bl < w0.heap.size) (hqz : q < w0.heap.size) (hw : wellQ q w0) (ho : ∀ g, own2 bl q w0 g → g < w0.heap.size) (hd : 1 ≤ d) :
    SeqStopsK Fence.wide d Try.prog 78 #[.pointer (some ⟨bq, 0, none⟩), .pointer (some ⟨bq + 1, 0, none⟩)] encN (KpO Bs bl q) (fun ys => ys = lsI s L l0) (fun pre => pre <+: lsI s L l0) (lsI s L l0).length w0 := by
  intro l J Jx W hW hJ hJx hY h0
  have HQ := Lib.hid (h.below hW)
  have cq := (hq.below hW).cell (o := 0) rfl
  have cl := (hq1.below hW).cell (o := 0) rfl
  have hz := hW.size
  have HB := Lib.hid (fun b hb => Nat.lt_of_lt_of_le (hB b hb) hz)
  have HL := Lib.hid (Nat.lt_of_lt_of_le hl hz)
  have HQz := Lib.hid (Nat.lt_of_lt_of_le hqz hz)
  have hO := own2_below hW hw hl hqz
  have HW := Lib.hid hO.1
  have HO := Lib.hid (fun g (hg : own2 bl q W g) => Nat.lt_of_lt_of_le (ho g (hO.2 g hg)) hz)
  have HC := Lib.hid (all_calls W p F N L s l0 HQ.out)
  have HJ := Lib.hid (fun (pre : List Nat) (A B : World) (hb : Below A.heap.size A B) (ha : J pre A) => hJ pre A B none ha (grown_of_below hb) (fun r e => by cases e))
  have HY := Lib.hid hY
  have H0 := Lib.hid h0
  have hlen := lsI_len h.ok l0
  have hN := h.ok.n
  clear h hq hq1 hB hl hqz hw ho hW hJ hJx hY h0 hz hO
  generalize lsI s L l0 = ls at HC HY hlen ⊢
  refine callsIn_wide.2 ?_
  go_enter Try.func78, Try.ntmps78
  go_wp2_with fail
  refine HC.out.mono ?_
  rintro e w1 ⟨⟨v, rfl, hO1⟩, hb1⟩
  have HJ1 := Lib.hid (HJ.out _ _ _ hb1 H0.out)
  have hO2 := own2_below hb1 HW.out HL.out HQz.out
  have HW1 := Lib.hid hO2.1
  have HO2 := Lib.hid (fun g (hg : own2 bl q w1 g) => HO.out g (hO2.2 g hg))
  obtain ⟨A, c, rfl, _⟩ := hO1.shape
  rw [ints_len] at hO1 ⊢
  have HO1 := Lib.hid hO1
  clear hO1 hb1 hO2 H0 HC HJ HO HW cq cl
  go_wp2_with fail
  go_loopw [10] (fun i wr => ∃ (k : Nat), k ≤ ls.length ∧ i = .int .i64 k ∧ J (ls.take k) wr ∧ KpO Bs bl q w1 wr) (fun i _ => ls.length - (intOf i).toNat)
  case atStart => exact ⟨0, by omega, rfl, by rw [List.take_zero]; exact HJ1.out, KpO.refl _ _ _ _⟩
  case round =>
    obtain ⟨k, hk, rfl, hj, hkp⟩ := hrel
    have HK := Lib.hid (And.intro hj hkp)
    clear hj hkp
    by_cases hlt : k < ls.length
    · obtain ⟨x, hx⟩ : ∃ x, ls[k]? = some x := ⟨_, List.getElem?_eq_getElem hlt⟩
      have hown := own_rounds HO1.out HW1.out HK.out.2 HB.out HO2.out
      obtain ⟨_, _, hv, hI⟩ := hown.shape
      injection hv with hv1 hv2 hv3
      subst hv1
      obtain ⟨b, o, rfl, hbl, hc0⟩ := hI k (by rw [ints_len]; exact hlt)
      rw [ints_getD hx] at hc0
      have HX := Lib.hid hx
      have hk0 : (0 : Int) ≤ (k : Int) := by omega
      have hkn : (k : Int) < (ls.length : Int) := by omega
      clear hx hown hI hv2 hv3 hbl
      go_upto_region 3 with fail
      obtain ⟨fn, tmps, assign, body, hy, hR⟩ := HY.out (ls.take k) x wr HK.out.1 (by rw [List.length_take]; omega)
      unfold encN at hy
      try dsimp only at hy
      refine wpIn_wide (n := d) |>.1 ?_
      gi_wp2
      refine hR.mono ?_
      rintro e W3 (⟨rfl, hJ3, hk3⟩ | ⟨rfl, hJx3⟩)
      · gi_wp2
        go_wp2_with fail
        go_roundw
        case rel => exact ⟨k + 1, by omega, by go_num, by rw [take_snoc HX.out]; exact hJ3, HK.out.2.trans hk3⟩
        case measure => simp [intOf]; omega
      · gi_wp2
        go_wp2_with fail
        refine bodyPost_ret (results_none rfl _ _ _) rfl ?_
        exact ⟨⟨_, rfl⟩, .inr ⟨_, by rw [← take_snoc HX.out]; exact List.take_prefix _ _, hJx3⟩⟩
    · obtain rfl : k = ls.length := by omega
      go_wp2_with fail
      go_end0
      exact ⟨⟨_, rfl⟩, .inl ⟨_, rfl, by have := HK.out.1; rwa [List.take_length] at this⟩⟩
end Go.Proofs.Ytldlogmjkbhomaa.Rng
