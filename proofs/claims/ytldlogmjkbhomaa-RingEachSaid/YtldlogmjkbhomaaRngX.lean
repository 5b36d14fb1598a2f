/- What RingEach holds through its loop over Each: the boxes of its variables, both lists, and what a round leaves. -/
import Derived.Test.YtldlogmjkbhomaaRngW
set_option linter.unusedSimpArgs false
namespace Go.Proofs.Ytldlogmjkbhomaa.Rng
open Go.RowKit Go.Proofs.Ytldlogmjkbhomaa.Aid
abbrev BOOL : TypeId := 4
theorem RngAt.same {w w' : World} {p N L : Nat} {F : List Nat} {s : RgS} (h : RngAt w p F N L s) (hz : w.heap.size ≤ w'.heap.size) (hb : ∀ i, i < w.heap.size → i ∈ F → w'.heap[i]? = w.heap[i]?) : RngAt w' p F N L s := by
  obtain ⟨A, gi, ci, gl, cl, h1⟩ := h.ex
  exact ⟨h.ok, A, gi, ci, gl, cl, h1.same hz hb⟩
theorem LAt.same {w w' : World} {q N L : Nat} {F : List Nat} {s : RgS} (h : LAt w q F N L s) (hz : w.heap.size ≤ w'.heap.size) (hb : ∀ i, i < w.heap.size → i ∈ F → w'.heap[i]? = w.heap[i]?) : LAt w' q F N L s := by
  obtain ⟨lb, hs, h1⟩ := h.ex
  exact ⟨h.ok, lb, hs, h1.same hz hb⟩
theorem Blk.isCells {w : World} {b : Nat} {cs : Array Value} {T : TypeId} (h : Blk w b cs T) : ∃ o : Obj, w.heap[b]? = some o ∧ o.isCells = true := ⟨_, h, rfl⟩
theorem Row.isCells {w : World} {e : TypeId} {g c : Nat} {vs : List Value} (h : Row w e g c vs) : ∃ o : Obj, w.heap[g]? = some o ∧ o.isCells = true := by
  rcases h.2 with ⟨e, _⟩ | ⟨g', cap, cur, e, _, hb, _⟩
  · cases e
  · cases e
    exact ⟨_, hb, rfl⟩
theorem Hdr.isCells {w : World} {hd : Value} {xs : List Nat} {e : TypeId} (h : Hdr enc1 1 w e hd xs) {g : Nat} (hg : hd.ownBlock = some g) : ∃ o : Obj, w.heap[g]? = some o ∧ o.isCells = true := by
  rcases h with ⟨rfl, _⟩ | ⟨g', c, rfl, hR⟩
  · cases hg
  · have : g' = g := Option.some.inj (show some g' = some g from hg)
    subst this
    obtain ⟨cur, hb, _⟩ := hR.blk
    exact ⟨_, hb, rfl⟩
section
variable {w w' : World} {q N L : Nat} {G : List Nat} {s : RgS}
theorem LAt.well (h : LAt w q G N L s) : wellQ q w := fun lb n c e => by
  obtain ⟨lb', hs, hP⟩ := h.ex
  rw [hP.c1] at e
  injection e with e
  injection e with e1 _ _
  injection e1 with e1
  injection e1 with e1
  subst e1
  exact Row.isCells hP.rows
theorem LAt.ownq_in (h : LAt w q G N L s) {g : Nat} (hg : ownQ q w g) : g ∈ G ∧ g ≠ q := by
  obtain ⟨lb, n, c, e, hg⟩ := hg
  obtain ⟨lb', hs, hP⟩ := h.ex
  rw [hP.c1] at e
  injection e with e
  injection e with e1 e2 _
  injection e1 with e1
  injection e1 with e1
  subst e1
  subst e2
  rcases hg with rfl | ⟨k, hk, hg⟩
  · exact ⟨hP.ins.2, fun e => hP.ne e.symm⟩
  · obtain ⟨hd, hk1, hc, _⟩ := hP.row hk
    rw [hc] at hg
    have h2 := hP.out k hd g hk1 hg
    exact ⟨h2.1, h2.2.1⟩
/-- No blocks but those that are reached. -/
theorem LAt.exact (h : LAt w q G N L s) : ∃ G0, LAt w q G0 N L s ∧ (∀ x ∈ G0, x ∈ G) ∧ ∀ x ∈ G0, (x = q ∨ ownQ q w x) ∧ ∃ o : Obj, w.heap[x]? = some o ∧ o.isCells = true := by
  obtain ⟨lb, hs, hP⟩ := h.ex
  have hin : ∀ x, x ∈ q :: lb :: hs.filterMap Value.ownBlock → x = q ∨ x = lb ∨ ∃ (k : Nat) (hd : Value), hs[k]? = some hd ∧ hd.ownBlock = some x := fun x hx => by
    rcases List.mem_cons.1 hx with e | hx
    · exact .inl e
    · rcases List.mem_cons.1 hx with e | hx
      · exact .inr (.inl e)
      · obtain ⟨hd, h1, h2⟩ := List.mem_filterMap.1 hx
        obtain ⟨k, h3⟩ := List.mem_iff_getElem?.1 h1
        exact .inr (.inr ⟨k, hd, h3, h2⟩)
  have hG : ∀ x, x ∈ q :: lb :: hs.filterMap Value.ownBlock → x ∈ G := fun x hx => by
    rcases hin x hx with rfl | rfl | ⟨k, hd, h1, h2⟩
    · exact hP.ins.1
    · exact hP.ins.2
    · exact (hP.out k hd x h1 h2).1
  refine ⟨q :: lb :: hs.filterMap Value.ownBlock, ⟨h.ok, lb, hs, hP.head, hP.rows, hP.hlen, hP.each, fun k hd g h1 h2 => ⟨?_, (hP.out k hd g h1 h2).2⟩, ⟨by simp, by simp⟩, hP.ne, fun x hx => hP.flt x (hG x hx)⟩, hG, fun x hx => ?_⟩
  · exact List.mem_cons_of_mem _ (List.mem_cons_of_mem _ (List.mem_filterMap.2 ⟨hd, List.mem_iff_getElem?.2 ⟨k, h1⟩, h2⟩))
  · rcases hin x hx with rfl | rfl | ⟨k, hd, h1, h2⟩
    · exact ⟨.inl rfl, Blk.isCells hP.head⟩
    · exact ⟨.inr ⟨x, L, L, hP.c1, .inl rfl⟩, Row.isCells hP.rows⟩
    · have hk : k < L := by have := (List.getElem?_eq_some_iff.1 h1).1; rw [hP.hlen] at this; exact this
      obtain ⟨hd2, h3, h4, _⟩ := hP.row hk
      rw [h1] at h3
      injection h3 with h3
      subst h3
      exact ⟨.inr ⟨lb, L, L, hP.c1, .inr ⟨k, hk, by rw [h4]; exact h2⟩⟩, Hdr.isCells (hP.each k hd h1) h2⟩
theorem LAt.q_in (h : LAt w q G N L s) : q ∈ G := by
  obtain ⟨lb, hs, hP⟩ := h.ex
  exact hP.ins.1
end
abbrev ITS : TypeId := 68
/-- What holds between two rounds: W0 is the world ahead of the loop, M0 the blocks of it that rounds write to. -/
structure InK (M0 : List Nat) (W0 W : World) (p q bl : Nat) (F : List Nat) (N L : Nat) (pre : List Nat) (s : RgS) (G : List Nat) (hd : Value) : Prop where
  kept : Kept M0 W0 W
  both : Both W p q F G N L s
  gin : ∀ x ∈ G, x ∈ M0 ∨ W0.heap.size ≤ x
  box : Blk W bl #[hd] ITS
  list : Hdr enc1 1 W IT hd pre
  own : ∀ g, hd.ownBlock = some g → (g ∈ M0 ∨ W0.heap.size ≤ g) ∧ g ≠ bl ∧ g ∉ F ∧ g ∉ G
  fm : ∀ x ∈ F, x ∈ M0
  bm : bl ∈ M0
  bF : bl ∉ F
  bG : bl ∉ G
  ff : ∀ x ∈ F, x < W0.heap.size
  ex : ∀ x ∈ G, (x = q ∨ ownQ q W x) ∧ ∃ o : Obj, W.heap[x]? = some o ∧ o.isCells = true
section
variable {M0 : List Nat} {W0 W W' : World} {p q bl : Nat} {F : List Nat} {N L : Nat} {pre : List Nat} {s : RgS} {G : List Nat} {hd : Value}
theorem blk_grown {b : Nat} {cs : Array Value} {T : TypeId} {row : Option Nat} (h : Blk W b cs T) (hg : W.grownBy W' row) (hr : ∀ r, row = some r → ∃ o : Obj, W.heap[r]? = some o ∧ o.isCells = false) : Blk W' b cs T := by
  refine (hg.block b h.lt fun e => ?_).trans h
  obtain ⟨o, ho, hc⟩ := hr b e.symm
  rw [show W.heap[b]? = _ from h] at ho
  cases ho
  cases hc
theorem InK.grown (h : InK M0 W0 W p q bl F N L pre s G hd) {row : Option Nat} (hg : W.grownBy W' row) (hr : ∀ r, row = some r → W0.heap.size ≤ r ∧ ∃ o : Obj, W.heap[r]? = some o ∧ o.isCells = false) : InK M0 W0 W' p q bl F N L pre s G hd := by
  have hc := fun r e => (hr r e).2
  have hG : ∀ i ∈ G, some i ≠ row := fun i hi e => by
    obtain ⟨o, ho, hcc⟩ := hc i e.symm
    obtain ⟨o2, ho2, hcc2⟩ := (h.ex i hi).2
    rw [ho] at ho2
    injection ho2 with ho2
    subst ho2
    rw [hcc] at hcc2
    cases hcc2
  have hF : ∀ i ∈ F, some i ≠ row := fun i hi e => by have := (hr i e.symm).1; have := h.ff i hi; omega
  have hz := h.kept.size
  have hsG : ∀ i ∈ G, W'.heap[i]? = W.heap[i]? := fun i hi => hg.block i (Array.getElem?_eq_some_iff.1 (h.ex i hi).2.choose_spec.1).1 (hG i hi)
  have hl : LAt W' q G N L s := h.both.ref.same hg.size fun i _ hi => hsG i hi
  refine ⟨⟨hg.os.trans h.kept.os, hg.tape.trans h.kept.tape, hg.output.trans h.kept.output, Nat.le_trans hz hg.size, fun k hk hkM => (hg.block k (by omega) fun e => ?_).trans (h.kept.block k hk hkM)⟩, ⟨h.both.rng.same hg.size fun i hi hiF => hg.block i hi (hF i hiF), hl, h.both.dis⟩, h.gin, blk_grown h.box hg hc, ?_, h.own, h.fm, h.bm, h.bF, h.bG, h.ff, fun x hx => ⟨?_, by rw [hsG x hx]; exact (h.ex x hx).2⟩⟩
  · have := (hr k e.symm).1
    omega
  · rcases h.list with e | ⟨g, c, e, hR⟩
    · exact .inl e
    · refine .inr ⟨g, c, e, ?_⟩
      obtain ⟨cur, h1, h2, h3⟩ := hR.blk
      exact ⟨⟨cur, blk_grown h1 hg hc, h2, h3⟩, hR.cap, hR.max⟩
  · rcases (h.ex x hx).1 with e | ⟨lb, n, c, e, hh⟩
    · exact .inl e
    · right
      have hq := hsG q (LAt.q_in h.both.ref)
      have hlb := hsG lb (LAt.ownq_in h.both.ref ⟨lb, n, c, e, .inl rfl⟩).1
      refine ⟨lb, n, c, by rw [cell_of_heap hq]; exact e, ?_⟩
      rcases hh with hh | ⟨k, hk, hh⟩
      · exact .inl hh
      · exact .inr ⟨k, hk, by rw [cell_of_heap hlb]; exact hh⟩
theorem InK.drew (h : InK M0 W0 W p q bl F N L pre s G hd) : InK M0 W0 W.drew p q bl F N L pre s G hd := h.grown (grown_of_below (Below.refl _ _).drew) (fun r e => by cases e)
/-- The row of both's blocks may be cut to those that are reached. -/
theorem InK.exact {G1 : List Nat} (hk : Kept M0 W0 W) (hb : Both W p q F G1 N L s) (gin : ∀ x ∈ G1, x ∈ M0 ∨ W0.heap.size ≤ x) (box : Blk W bl #[hd] ITS) (list : Hdr enc1 1 W IT hd pre)
    (own : ∀ g, hd.ownBlock = some g → (g ∈ M0 ∨ W0.heap.size ≤ g) ∧ g ≠ bl ∧ g ∉ F ∧ g ∉ G1) (fm : ∀ x ∈ F, x ∈ M0) (bm : bl ∈ M0) (bF : bl ∉ F) (bG : bl ∉ G1) (ff : ∀ x ∈ F, x < W0.heap.size) : ∃ G, (∀ x ∈ G, x ∈ G1) ∧ InK M0 W0 W p q bl F N L pre s G hd := by
  obtain ⟨G0, h1, h2, h3⟩ := LAt.exact hb.ref
  exact ⟨G0, h2, hk, ⟨hb.rng, h1, fun x hx hx2 => hb.dis x hx (h2 x hx2)⟩, fun x hx => gin x (h2 x hx), box, list, fun g hg => ⟨(own g hg).1, (own g hg).2.1, (own g hg).2.2.1, fun hx => (own g hg).2.2.2 (h2 g hx)⟩, fm, bm, bF, fun hx => bG (h2 _ hx), ff, h3⟩
theorem own_box {b : Nat} {T : TypeId} (h : Blk W b #[hd] T) : ownB b W = hd.ownBlock := by
  unfold ownB
  rw [h.cell (o := 0) rfl]
  rfl
/-- A call on both. -/
theorem InK.told (h : InK M0 W0 W p q bl F N L pre s G hd) {s' : RgS} (k : Told W p q F G N L s' W') : (∃ s G, InK M0 W0 W' p q bl F N L pre s G hd) ∧ KeepsFrom W0.heap.size W W' ∧ KpO (bl :: q :: F) bl q W W' := by
  obtain ⟨G', hb, hk, hG⟩ := k
  have hz := hk.size
  have hz0 := h.kept.size
  have nbl : bl ∉ F ++ G := fun hx => (List.mem_append.1 hx).elim h.bF h.bG
  have hbox := h.box.kept hk nbl
  refine ⟨?_, ⟨hz, fun k o hB hk1 hc => ?_⟩, hz, fun _ => ⟨LAt.well hb.ref, fun i hi hn ho _ => ?_, fun g hg => ?_⟩⟩
  · refine Exists.elim (InK.exact (M0 := M0) (W0 := W0) (bl := bl) (pre := pre) (hd := hd) ⟨hk.os.trans h.kept.os, hk.tape.trans h.kept.tape, hk.output.trans h.kept.output, Nat.le_trans hz0 hz, fun k h1 h2 => (hk.block k (by omega) fun hx => ?_).trans (h.kept.block k h1 h2)⟩ hb (fun x hx => ?_) hbox (h.list.kept hk fun g hg hx => ?_) (fun g hg => ⟨(h.own g hg).1, (h.own g hg).2.1, (h.own g hg).2.2.1, fun hx => ?_⟩) h.fm h.bm h.bF (fun hx => ?_) h.ff) (fun G2 h3 => ⟨s', G2, h3.2⟩)
    · rcases List.mem_append.1 hx with e | e
      · exact h2 (h.fm k e)
      · rcases h.gin k e with e | e
        · exact h2 e
        · omega
    · rcases hG x hx with e | e
      · exact h.gin x e
      · exact .inr (by omega)
    · rcases List.mem_append.1 hx with e | e
      · exact (h.own g hg).2.2.1 e
      · exact (h.own g hg).2.2.2 e
    · rcases hG g hx with e | e
      · exact (h.own g hg).2.2.2 e
      · have := h.list.lt hg
        omega
    · rcases hG bl hx with e | e
      · exact h.bG e
      · have := h.box.lt
        omega
  · refine (hk.block k (Array.getElem?_eq_some_iff.1 hk1).1 fun hx => ?_).trans hk1
    rcases List.mem_append.1 hx with e | e
    · have := h.ff k e
      omega
    · obtain ⟨o2, h1, h2⟩ := (h.ex k e).2
      rw [hk1] at h1
      injection h1 with h1
      subst h1
      rw [hc] at h2
      cases h2
  · refine hk.block i hi fun hx => ?_
    rcases List.mem_append.1 hx with e | e
    · exact hn (by simp [e])
    · rcases (h.ex i e).1 with e2 | e2
      · exact hn (by simp [e2])
      · exact ho (.inr e2)
  · rcases hg with hg | hg
    · rw [own_box hbox] at hg
      exact .inl (.inl (by rw [own_box h.box]; exact hg))
    · have h1 := LAt.ownq_in hb.ref hg
      rcases hG g h1.1 with e | e
      · rcases (h.ex g e).1 with e2 | e2
        · exact absurd e2 h1.2
        · exact .inl (.inr e2)
      · exact .inr e
/-- One item appended. -/
theorem InK.step (h : InK M0 W0 W p q bl F N L pre s G hd) (x : Nat) {w4 : World} {g4 c4 : Nat} (hR : Recs enc1 1 w4 IT g4 c4 (pre ++ [x])) (hold : ∀ i, i < W.heap.size → hd.ownBlock ≠ some i → w4.heap[i]? = W.heap[i]?)
    (hown : hd.ownBlock = some g4 ∨ W.heap.size ≤ g4) (hz : W.heap.size ≤ w4.heap.size) (e1 : w4.os = W.os) (e2 : w4.tape = W.tape) (e3 : w4.output = W.output) :
    InK M0 W0 (w4.setCell ⟨bl, 0, none⟩ (.slice (some ⟨g4, 0, none⟩) (pre.length + 1) c4)) p q bl F N L (pre ++ [x]) s G (.slice (some ⟨g4, 0, none⟩) (pre.length + 1) c4) ∧
      KeepsFrom W0.heap.size W (w4.setCell ⟨bl, 0, none⟩ (.slice (some ⟨g4, 0, none⟩) (pre.length + 1) c4)) ∧ KpO (bl :: q :: F) bl q W (w4.setCell ⟨bl, 0, none⟩ (.slice (some ⟨g4, 0, none⟩) (pre.length + 1) c4)) := by
  have hz0 := h.kept.size
  have hblt := h.box.lt
  have hsame : ∀ i, i < W.heap.size → i ≠ bl → hd.ownBlock ≠ some i → (w4.setCell ⟨bl, 0, none⟩ (.slice (some ⟨g4, 0, none⟩) (pre.length + 1) c4)).heap[i]? = W.heap[i]? := fun i hi h1 h2 =>
    (Below.heap_setCell _ _ _ _ h1).trans (hold i hi h2)
  have hz5 : W.heap.size ≤ (w4.setCell ⟨bl, 0, none⟩ (.slice (some ⟨g4, 0, none⟩) (pre.length + 1) c4)).heap.size := by simpa using hz
  have hF : ∀ i, i ∈ F → i ≠ bl ∧ hd.ownBlock ≠ some i := fun i hi => ⟨fun e => h.bF (e ▸ hi), fun e => (h.own i e).2.2.1 hi⟩
  have hG : ∀ i, i ∈ G → i ≠ bl ∧ hd.ownBlock ≠ some i := fun i hi => ⟨fun e => h.bG (e ▸ hi), fun e => (h.own i e).2.2.2 hi⟩
  have hGlt : ∀ i, i ∈ G → i < W.heap.size := h.both.ref.flt
  have hFlt : ∀ i, i ∈ F → i < W.heap.size := h.both.rng.flt
  have hg4 : (g4 ∈ M0 ∨ W0.heap.size ≤ g4) ∧ g4 ≠ bl ∧ g4 ∉ F ∧ g4 ∉ G := by
    rcases hown with e | e
    · exact h.own g4 e
    · exact ⟨.inr (by omega), by omega, fun hx => by have := hFlt g4 hx; omega, fun hx => by have := hGlt g4 hx; omega⟩
  have hbn : hd.ownBlock ≠ some bl := fun e => (h.own bl e).2.1 rfl
  have hl4 : Blk w4 bl #[hd] ITS := (hold bl hblt hbn).trans h.box
  have hsG : ∀ i ∈ G, (w4.setCell ⟨bl, 0, none⟩ (.slice (some ⟨g4, 0, none⟩) (pre.length + 1) c4)).heap[i]? = W.heap[i]? := fun i hi => hsame i (hGlt i hi) (hG i hi).1 (hG i hi).2
  have hB : Both (w4.setCell ⟨bl, 0, none⟩ (.slice (some ⟨g4, 0, none⟩) (pre.length + 1) c4)) p q F G N L s := ⟨h.both.rng.same hz5 fun i hi hiF => hsame i hi (hF i hiF).1 (hF i hiF).2, h.both.ref.same hz5 fun i _ hiG => hsG i hiG, h.both.dis⟩
  have hbox := hl4.set 0 (.slice (some ⟨g4, 0, none⟩) (pre.length + 1) c4)
  have hqs := hsG q (LAt.q_in h.both.ref)
  have hqb : ∀ g, ownQ q (w4.setCell ⟨bl, 0, none⟩ (.slice (some ⟨g4, 0, none⟩) (pre.length + 1) c4)) g ↔ ownQ q W g := fun g => by
    constructor
    · rintro ⟨lb, n, c, e, hh⟩
      rw [cell_of_heap hqs] at e
      have hlb := hsG lb (LAt.ownq_in h.both.ref ⟨lb, n, c, e, .inl rfl⟩).1
      refine ⟨lb, n, c, e, ?_⟩
      rcases hh with hh | ⟨k, hk, hh⟩
      · exact .inl hh
      · exact .inr ⟨k, hk, by rw [cell_of_heap hlb] at hh; exact hh⟩
    · rintro ⟨lb, n, c, e, hh⟩
      have hlb := hsG lb (LAt.ownq_in h.both.ref ⟨lb, n, c, e, .inl rfl⟩).1
      refine ⟨lb, n, c, by rw [cell_of_heap hqs]; exact e, ?_⟩
      rcases hh with hh | ⟨k, hk, hh⟩
      · exact .inl hh
      · exact .inr ⟨k, hk, by rw [cell_of_heap hlb]; exact hh⟩
  refine ⟨⟨⟨e1.trans h.kept.os, e2.trans h.kept.tape, e3.trans h.kept.output, Nat.le_trans hz0 hz5, fun k hk hkM => (hsame k (by omega) (fun e => hkM (e ▸ h.bm)) fun e => ?_).trans (h.kept.block k hk hkM)⟩, hB, h.gin, hbox, ?_, fun g hg => ?_, h.fm, h.bm, h.bF, h.bG, h.ff, fun y hy => ⟨(h.ex y hy).1.imp id (hqb y).2, by rw [hsG y hy]; exact (h.ex y hy).2⟩⟩, ⟨hz5, fun k o _ hk hc => ?_⟩, hz5, fun _ => ⟨LAt.well hB.ref, fun i hi hn ho _ => ?_, fun g hg => ?_⟩⟩
  · rcases (h.own k e).1 with e | e
    · exact hkM e
    · omega
  · exact .inr ⟨g4, c4, by simp, hR.other (a := ⟨bl, 0, none⟩) hg4.2.1 _⟩
  · have : g4 = g := Option.some.inj (show some g4 = some g from hg)
    subst this
    exact hg4
  · refine (hsame k (Array.getElem?_eq_some_iff.1 hk).1 (fun e => ?_) fun e => ?_).trans hk
    · subst e
      rw [show W.heap[k]? = _ from h.box] at hk
      cases hk
      cases hc
    · obtain ⟨o2, h1, h2⟩ := Hdr.isCells h.list e
      rw [hk] at h1
      injection h1 with h1
      subst h1
      rw [hc] at h2
      cases h2
  · refine hsame i hi (fun e => hn (by simp [e])) fun e => ho (.inl ?_)
    rw [own_box h.box]
    exact e
  · rcases hg with hg | hg
    · rw [own_box hbox] at hg
      have : g4 = g := Option.some.inj (show some g4 = some g from hg)
      subst this
      rcases hown with e | e
      · exact .inl (.inl (by rw [own_box h.box]; exact e))
      · exact .inr e
    · exact .inl (.inr ((hqb g).1 hg))
end
theorem nat_wrap0 {k : Nat} (h : k ≤ 4096) : IntKind.i64.wrap (k : Int) = (k : Int) := by
  rw [i64_wrap]; unfold wrap64; omega
def frE (t : Array Value) (x : Nat) : Array Value := t.setIfInBounds 88 (.int .i64 (x : Nat))
theorem frE_eq (t : Array Value) (x : Nat) : ((#[88] : Array Tmp).zip (encN x)).foldl (fun t (p, v) => t.setIfInBounds p v) t = frE t x := by
  unfold encN frE
  simp
def updE (t : Array Value) (x : Nat) : Array Value := (frE t x).setIfInBounds 20 (.int .i64 (x : Nat))
theorem results_cell1 {fn : Func} (h : fn.results = #[.cell 10 BOOL]) (tmps : Array Value) (w : World) (g : Nat) (b : Bool) (hp : tmps.getD 10 undef = .pointer (some ⟨g, 0, none⟩)) (hc : w.cell? ⟨g, 0, none⟩ = some (.bool b)) :
    (results fn tmps).run Try.prog w = .ok (.bool b) w := by
  have hp' : tmps[10]?.getD undef = .pointer (some ⟨g, 0, none⟩) := by simpa using hp
  simp [results, h, hp', asAddr, go_sem, hc]
theorem run_eql_func_nil {P : Program} {t : TypeId} {a : Array TypeId} {b : Array TypeId} {c : Bool} (h : P.underlying t = some (.func a b c)) (w : World) (f : Fn) (rs bs : Array Value) : (binOp .eql t (.func f rs bs) .nilFunc).run P w = .ok (.bool false) w := by
  have h0 : ∀ d : Nat, (Op.equalIn (d + 1) t (.func f rs bs) .nilFunc).run P w = .ok false w := fun d => by simp [Op.equalIn, run_underlying h]
  have h1 : (Op.equal t (.func f rs bs) .nilFunc).run P w = .ok false w := h0 9999
  simp [binOp, h1]
/-- The boxes of the law's variables. -/
structure Bx (W : World) (p q b0 bp bs N : Nat) (more : Value) : Prop where
  hi : Blk W b0 #[.int .i64 (N : Nat)] IT
  hm : Blk W (b0 + 1) #[more] 55
  hr : Blk W (b0 + 1 + 1) #[.bool false] BOOL
  hp : Blk W bp #[.pointer (some ⟨p, 0, none⟩)] 57
  hs : Blk W bs #[.pointer (some ⟨q, 0, none⟩)] 60
section
variable {w0 W W' : World} {p q b0 bp bs N L : Nat} {more : Value} {F G : List Nat} {s : RgS}
theorem Bx.kept (h : Bx W p q b0 bp bs N more) {X : List Nat} (k : Kept X W W') (hX : b0 ∉ X ∧ b0 + 1 ∉ X ∧ b0 + 1 + 1 ∉ X ∧ bp ∉ X ∧ bs ∉ X) : Bx W' p q b0 bp bs N more :=
  ⟨h.hi.kept k hX.1, h.hm.kept k hX.2.1, h.hr.kept k hX.2.2.1, h.hp.kept k hX.2.2.2.1, h.hs.kept k hX.2.2.2.2⟩
theorem Bx.below (h : Bx W p q b0 bp bs N more) (k : Below W.heap.size W W') : Bx W' p q b0 bp bs N more := ⟨h.hi.below k, h.hm.below k, h.hr.below k, h.hp.below k, h.hs.below k⟩
/-- What holds ahead of the loop over Each. -/
structure RunB (w0 W : World) (p q b0 bp bs N L : Nat) (more : Value) (F G : List Nat) (s : RgS) : Prop where
  both : Both W p q F G N L s
  bx : Bx W p q b0 bp bs N more
  out : b0 ∉ F ++ G ∧ b0 + 1 ∉ F ++ G ∧ b0 + 1 + 1 ∉ F ++ G ∧ bp ∉ F ++ G ∧ bs ∉ F ++ G
  base : ∀ x ∈ F ++ G, w0.heap.size ≤ x
  below : Below w0.heap.size w0 W
theorem RunB.on (h : RunB w0 W p q b0 bp bs N L more F G s) (k : Below W.heap.size W W') : RunB w0 W' p q b0 bp bs N L more F G s := ⟨h.both.below k, h.bx.below k, h.out, h.base, below_then h.below k⟩
theorem RunB.told (h : RunB w0 W p q b0 bp bs N L more F G s) {s' : RgS} (k : Told W p q F G N L s' W') : ∃ G', RunB w0 W' p q b0 bp bs N L more F G' s' := by
  obtain ⟨G', h1, h2, h3⟩ := k
  have l1 := h.bx.hi.lt
  have l2 := h.bx.hm.lt
  have l3 := h.bx.hr.lt
  have l4 := h.bx.hp.lt
  have l5 := h.bx.hs.lt
  have hz := h.below.size
  have hO : ∀ b, b < W.heap.size → b ∉ F ++ G → b ∉ F ++ G' := fun b hb hn hx => by
    rcases List.mem_append.1 hx with e | e
    · exact hn (List.mem_append_left _ e)
    · rcases h3 b e with e | e
      · exact hn (List.mem_append_right _ e)
      · omega
  obtain ⟨o1, o2, o3, o4, o5⟩ := h.out
  refine ⟨G', h1, h.bx.kept h2 h.out, ⟨hO _ l1 o1, hO _ l2 o2, hO _ l3 o3, hO _ l4 o4, hO _ l5 o5⟩, fun x hx => ?_, below_kept h.below h2 hz h.base⟩
  rcases List.mem_append.1 hx with e | e
  · exact h.base x (List.mem_append_left _ e)
  · rcases h3 x e with e | e
    · exact h.base x (List.mem_append_right _ e)
    · omega
theorem own_keptg {w w' : World} {base : Nat} {e : TypeId} {k : IntKind} {v : Value} {xs : List Int} {F : List Nat} (h : Aid.Own w base e k v xs) (hk : Kept F w w') (hF : ∀ g, v.ownBlock = some g → g ∉ F) : Aid.Own w' base e k v xs := by
  obtain ⟨h1, h2⟩ := h
  refine ⟨h1, ?_⟩
  rcases h2 with h2 | ⟨g, cap, cur, hv, hg, hh, r⟩
  · exact .inl h2
  · exact .inr ⟨g, cap, cur, hv, hg, (hk.block g (Array.getElem?_eq_some_iff.1 hh).1 (hF g (by rw [hv]; rfl))).trans hh, r⟩
/-- What stands behind the loop. -/
structure FinK (w W : World) (p q b0 bp bs N L : Nat) (more : Value) (pc : Nat) (FC : List Nat) (s : RgS) (base : Nat) (bef : Value) (bl : Nat) (hd : Value) (ls : List Nat) (D : Nat) : Prop where
  bx : Bx W p q b0 bp bs N more
  c : RngAt W pc FC N L s
  bef : Aid.Own W base IT .i64 bef (ints ls)
  box : Blk W bl #[hd] ITS
  got : Hdr enc1 1 W IT hd ls
  d : W.heap[D]? = some (.deferred (some []))
  below : Below w.heap.size w W
theorem FinK.on {w W W' : World} {pc : Nat} {FC : List Nat} {base : Nat} {bef : Value} {bl : Nat} {hd : Value} {ls : List Nat} {D : Nat} (h : FinK w W p q b0 bp bs N L more pc FC s base bef bl hd ls D) (k : Below W.heap.size W W') : FinK w W' p q b0 bp bs N L more pc FC s base bef bl hd ls D :=
  ⟨h.bx.below k, h.c.below k, h.bef.below k, h.box.below k, h.got.below k, (k.block D (Array.getElem?_eq_some_iff.1 h.d).1).trans h.d, below_then h.below k⟩
theorem FinK.out {w W : World} {pc : Nat} {FC : List Nat} {base : Nat} {bef : Value} {bl : Nat} {hd : Value} {ls : List Nat} {D : Nat} (h : FinK w W p q b0 bp bs N L more pc FC s base bef bl hd ls D) (hD : w.heap.size ≤ D) (hb : w.heap.size ≤ b0) : (W.setCell ⟨b0 + 1 + 1, 0, none⟩ (.bool true)).heap[D]? = some (.deferred (some [])) ∧
    ((W.setCell ⟨b0 + 1 + 1, 0, none⟩ (.bool true)).putObj D (.deferred none)).cell? ⟨b0 + 1 + 1, 0, none⟩ = some (.bool true) ∧ Below w.heap.size w ((W.setCell ⟨b0 + 1 + 1, 0, none⟩ (.bool true)).putObj D (.deferred none)) := by
  have hne : D ≠ b0 + 1 + 1 := fun e => by
    have h1 := h.bx.hr
    rw [← e, show Blk W D #[.bool false] BOOL = (W.heap[D]? = some (.cells #[.bool false] BOOL (0, 0))) from rfl, h.d] at h1
    cases h1
  have hd : (W.setCell ⟨b0 + 1 + 1, 0, none⟩ (.bool true)).heap[D]? = some (.deferred (some [])) := (Below.heap_setCell _ _ _ _ hne).trans h.d
  have hb := h.below.setCell (p := ⟨b0 + 1 + 1, 0, none⟩) (by show w.heap.size ≤ b0 + 1 + 1; omega) (.bool true)
  refine ⟨hd, ?_, hb.trans (belowK_b (w := w) (Nat.le_refl _) _ D _ _ hD hd rfl rfl)⟩
  rw [cell_of_heap (World.putObj_heap_other (fun e => hne e.symm))]
  exact (h.bx.hr.set 0 (.bool true)).cell (o := 0) rfl
end
end Go.Proofs.Ytldlogmjkbhomaa.Rng
