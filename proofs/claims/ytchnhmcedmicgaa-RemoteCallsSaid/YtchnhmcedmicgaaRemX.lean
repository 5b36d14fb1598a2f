/- What RemoteCalls holds through its loop over Each: the boxes of its variables, and what a round leaves. -/
import Derived.Test.YtchnhmcedmicgaaRemW
set_option linter.unusedSimpArgs false
namespace Go.Proofs.Ytchnhmcedmicgaa.Rem
open Go.RowKit Go.Proofs.Ytchnhmcedmicgaa.Aid
section
variable {F : Fence} {n : Nat} {P : Program}
/-- The law of the loop, where the assignment's last word is one box: the frame of a round is the loop's own with some slots written. -/
theorem range_upd {α : Type} {g : Operand} {ps : Array Tmp} {assign body : Code} {Q : Exit → Act → World → Prop} {t : Array Value} {w : World}
    (hro : F.round = none) (h1 : 1 ≤ n) {gf : Nat} {lb : Array Value} (hg : (Act.mk t []).eval g = .func (.func gf) #[] lb) (hFg : F.fn gf) (eg : ∀ args w, (callFunc gf args).run P w = .ok (.enter gf args) w)
    {encs : α → Array Value} {Kp : World → World → Prop} {S Sp : List α → Prop} {N : Nat} {w0 : World} (hseq : SeqStopsK F (n - 1) P gf lb encs Kp S Sp N w0)
    (hKt : ∀ {A B C : World}, Kp A B → Kp B C → Kp A C) (hKb : ∀ (W : World) (l : Nat) (o o' : Obj), w.heap.size ≤ l → W.heap[l]? = some o → o.isCells = false → o.isWalk = false → Kp W (W.putObj l o')) (hb0 : Below w0.heap.size w0 w) (hps : ∀ x, (encs x).size = ps.size)
    (I : List α → World → Prop) (Ix : Code → List α → World → Prop) (hI : OwnFrom w.heap.size I) (hIx : ∀ c, OwnFrom w.heap.size (Ix c)) (h0 : I [] w) (fr : Array Value → α → Array Value) (hfr : ∀ x, (ps.zip (encs x)).foldl (fun t (p, v) => t.setIfInBounds p v) t = fr t x) (upd : Array Value → α → Nat → Array Value) (cs : α → Array Value) (T : TypeId)
    (hassign : ∀ (l : Nat) (pre : List α) (x : α) (W : World) (K : Act → World → Prop), I pre W → (∀ a' W', KeepsFrom w.heap.size W W' → Kp W W' → I pre W' → (∃ Bx, w.heap.size ≤ Bx ∧ Blk W' Bx (cs x) T ∧ a' = ⟨upd t x Bx, []⟩) → K a' W') →
      assign.wpIn (F.inRound l) (n - 1 - 1) P (Exit.then K (fun _ _ _ => False)) { tmps := fr t x, defers := [] } W)
    (hbody : ∀ (l : Nat) (pre : List α) (x : α) (Bx : Nat) (W : World), w.heap.size ≤ Bx → Blk W Bx (cs x) T → I pre W → pre.length < N → body.wpIn (F.inRound l) (n - 1 - 1) P (ownPostG w.heap.size Kp I Ix (pre ++ [x]) W) ⟨upd t x Bx, []⟩ W)
    (hdone : ∀ (D : Nat) (xs : List α) (W : World), w.heap.size ≤ D → S xs → I xs W → W.heap[D]? = some (.deferred (some [])) → Q .normal { tmps := t, defers := [{ target := .collected D, args := #[] }] } W)
    (hstop : ∀ (D : Nat) (c : Code) (pre : List α) (W : World), w.heap.size ≤ D → Sp pre → Ix c pre W → W.heap[D]? = some (.deferred (some [])) → c.wpIn F n P Q { tmps := t, defers := [{ target := .collected D, args := #[] }] } W) :
    (Code.rangeFunc g ps assign body).wpIn F n P Q ⟨t, []⟩ w := by
  refine wpIn_rangeFunc_ownH hro h1 hg hFg eg hseq hKt hKb hb0 hps I Ix hI hIx h0 (fun x a' W => ∃ Bx, w.heap.size ≤ Bx ∧ Blk W Bx (cs x) T ∧ a' = ⟨upd t x Bx, []⟩) ?_ (fun l pre x W K hi hk => by rw [show (Act.mk t []).tmps = t from rfl, hfr]; exact hassign l pre x W K hi hk) ?_ hdone hstop
  · rintro x a' s A B row ⟨Bx, h1, h2, h3⟩ hg hr
    refine ⟨Bx, h1, ?_, h3⟩
    refine (hg.block Bx h2.lt fun e => ?_).trans h2
    obtain ⟨o, ho, hc⟩ := (hr Bx e.symm).2
    rw [show A.heap[Bx]? = _ from h2] at ho
    cases ho
    cases hc
  · rintro l pre x a' W _ _ hi ⟨Bx, h1, h2, rfl⟩ hlt
    exact hbody l pre x Bx W h1 h2 hi hlt
end
theorem grown_blk {W W' : World} {row : Option Nat} {b : Nat} {cs : Array Value} {T : TypeId} (h : Blk W b cs T) (hg : W.grownBy W' row) (hr : ∀ r, row = some r → ∃ o : Obj, W.heap[r]? = some o ∧ o.isCells = false) : Blk W' b cs T := by
  refine (hg.block b h.lt fun e => ?_).trans h
  obtain ⟨o, ho, hc⟩ := hr b e.symm
  rw [show W.heap[b]? = _ from h] at ho
  cases ho
  cases hc
theorem QAt.same {w w' : World} {p : Nat} {F : List Nat} {n m : Nat} {s : QRun} (h : QAt w p F n m s) (hz : w.heap.size ≤ w'.heap.size) (hb : ∀ i, i < w.heap.size → i ∈ F → w'.heap[i]? = w.heap[i]?) : QAt w' p F n m s := by
  obtain ⟨rb, wb, sb, hs, h1⟩ := h.ex
  exact ⟨h.ok, h.small, rb, wb, sb, hs, h1.same hz hb⟩
def frE (t : Array Value) (x : Nat × It) : Array Value := (t.setIfInBounds 79 (.int .i64 (x.1 : Nat))).setIfInBounds 80 (.agg #[.int .i64 x.2.frm, .int .i64 x.2.at_, .int .i64 x.2.seq])
theorem frE_eq (t : Array Value) (x : Nat × It) : ((#[79, 80] : Array Tmp).zip (encE x)).foldl (fun t (p, v) => t.setIfInBounds p v) t = frE t x := by
  unfold encE frE
  simp
def updE (t : Array Value) (x : Nat × It) (b : Nat) : Array Value :=
  (((t.setIfInBounds 79 (.int .i64 (x.1 : Nat))).setIfInBounds 80 (.agg #[.int .i64 x.2.frm, .int .i64 x.2.at_, .int .i64 x.2.seq])).setIfInBounds 18 (.int .i64 (x.1 : Nat))).setIfInBounds 19 (.pointer (some ⟨b, 0, none⟩))
abbrev INT : TypeId := 3
abbrev BOOL : TypeId := 4
abbrev ITS : TypeId := 100
/-- The boxes, and where all lies. -/
structure BoxE (w W0 : World) (F G : List Nat) (bw br bl bf : Nat) : Prop where
  lt : bw < W0.heap.size ∧ br < W0.heap.size ∧ bl < W0.heap.size ∧ bf < W0.heap.size
  ge : w.heap.size ≤ bw ∧ w.heap.size ≤ br ∧ w.heap.size ≤ bl ∧ w.heap.size ≤ bf
  ne : bw ≠ br ∧ bw ≠ bl ∧ bw ≠ bf ∧ br ≠ bl ∧ br ≠ bf ∧ bl ≠ bf
  out : ∀ x ∈ F ++ G, x ≠ bw ∧ x ≠ br ∧ x ≠ bl ∧ x ≠ bf
  flt : ∀ x ∈ F ++ G, x < W0.heap.size
structure InE (w W0 W : World) (p : Nat) (F : List Nat) (n m : Nat) (s : QRun) (rp : Nat) (G : List Nat) (log : List RRow) (bw br bl bf : Nat) (pre : List (Nat × It)) (fv : Nat) (hd : Value) : Prop where
  bxs : BoxE w W0 F G bw br bl bf
  size : W0.heap.size ≤ W.heap.size
  hw : Blk W bw #[.int .i64 (n : Nat)] INT
  hr : Blk W br #[.bool false] BOOL
  hl : Blk W bl #[hd] ITS
  hf : Blk W bf #[.int .i64 (fv : Nat)] INT
  list : Hdr encI 3 W IT hd (pre.map Prod.snd)
  own : ∀ g, hd.ownBlock = some g → w.heap.size ≤ g ∧ g ≠ bw ∧ g ≠ br ∧ g ≠ bl ∧ g ≠ bf ∧ g ∉ F ++ G
  top : TopL pre fv
  rise : RiseL n pre
  q : QAt W p F n m s
  r : RefQ W rp G n log
  below : Below w.heap.size w W
section
variable {w W0 W W' : World} {p : Nat} {F : List Nat} {n m : Nat} {s : QRun} {rp : Nat} {G : List Nat} {log : List RRow} {bw br bl bf : Nat} {pre : List (Nat × It)} {fv : Nat} {hd : Value}
theorem InE.grown (h : InE w W0 W p F n m s rp G log bw br bl bf pre fv hd) {row : Option Nat} (hw0 : w.heap.size ≤ W0.heap.size) (hg : W.grownBy W' row) (hr : ∀ r, row = some r → W0.heap.size ≤ r ∧ ∃ o : Obj, W.heap[r]? = some o ∧ o.isCells = false) : InE w W0 W' p F n m s rp G log bw br bl bf pre fv hd := by
  have hc := fun r e => (hr r e).2
  have hne : ∀ i ∈ F ++ G, some i ≠ row := fun i hi e => by have := (hr i e.symm).1; have := h.bxs.flt i hi; omega
  refine ⟨h.bxs, Nat.le_trans h.size hg.size, grown_blk h.hw hg hc, grown_blk h.hr hg hc, grown_blk h.hl hg hc, grown_blk h.hf hg hc, ?_, h.own, h.top, h.rise,
    h.q.same hg.size fun i hi hF => hg.block i hi (hne i (List.mem_append_left _ hF)), h.r.same hg.size fun i hi hG => hg.block i hi (hne i (List.mem_append_right _ hG)),
    h.below.trans ⟨hg.os, hg.tape, hg.output, hg.size, fun k hk => hg.block k (Nat.lt_of_lt_of_le hk h.below.size) fun e => by have := (hr k e.symm).1; omega⟩⟩
  rcases h.list with e | ⟨g, c, e, hR⟩
  · exact .inl e
  · refine .inr ⟨g, c, e, ?_⟩
    obtain ⟨cur, h1, h2, h3⟩ := hR.blk
    exact ⟨⟨cur, grown_blk h1 hg hc, h2, h3⟩, hR.cap, hR.max⟩
theorem InE.on (h : InE w W0 W p F n m s rp G log bw br bl bf pre fv hd) (k : Below W.heap.size W W') : InE w W0 W' p F n m s rp G log bw br bl bf pre fv hd :=
  ⟨h.bxs, Nat.le_trans h.size k.size, h.hw.below k, h.hr.below k, h.hl.below k, h.hf.below k, h.list.below k, h.own, h.top, h.rise, h.q.below k, h.r.below k, below_then h.below k⟩
/-- One item more: the variable from written, the item appended, the list's variable written. -/
theorem InE.step (h : InE w W0 W p F n m s rp G log bw br bl bf pre fv hd) (x : Nat × It) (h1 : fv ≤ x.1) (h2 : x.1 < n) {w4 : World} {g4 c4 : Nat}
    (hR : Recs encI 3 w4 IT g4 c4 (pre.map Prod.snd ++ [x.2])) (hold : ∀ i, i < (W.setCell ⟨bf, 0, none⟩ (.int .i64 (x.1 : Nat))).heap.size → hd.ownBlock ≠ some i → w4.heap[i]? = (W.setCell ⟨bf, 0, none⟩ (.int .i64 (x.1 : Nat))).heap[i]?)
    (hown : hd.ownBlock = some g4 ∨ (W.setCell ⟨bf, 0, none⟩ (.int .i64 (x.1 : Nat))).heap.size ≤ g4) (hz : (W.setCell ⟨bf, 0, none⟩ (.int .i64 (x.1 : Nat))).heap.size ≤ w4.heap.size)
    (e1 : w4.os = (W.setCell ⟨bf, 0, none⟩ (.int .i64 (x.1 : Nat))).os) (e2 : w4.tape = (W.setCell ⟨bf, 0, none⟩ (.int .i64 (x.1 : Nat))).tape) (e3 : w4.output = (W.setCell ⟨bf, 0, none⟩ (.int .i64 (x.1 : Nat))).output) :
    InE w W0 (w4.setCell ⟨bl, 0, none⟩ (.slice (some ⟨g4, 0, none⟩) (pre.length + 1) c4)) p F n m s rp G log bw br bl bf (pre ++ [x]) x.1 (.slice (some ⟨g4, 0, none⟩) (pre.length + 1) c4) ∧
      KeepsOthers W (w4.setCell ⟨bl, 0, none⟩ (.slice (some ⟨g4, 0, none⟩) (pre.length + 1) c4)) ∧ KpL [bf, bl] bl W (w4.setCell ⟨bl, 0, none⟩ (.slice (some ⟨g4, 0, none⟩) (pre.length + 1) c4)) := by
  have hs1 : (W.setCell ⟨bf, 0, none⟩ (.int .i64 (x.1 : Nat))).heap.size = W.heap.size := by simp
  rw [hs1] at hold hown hz
  obtain ⟨n1, n2, n3, n4, n5, n6⟩ := h.bxs.ne
  obtain ⟨l1, l2, l3, l4⟩ := h.bxs.lt
  obtain ⟨a1, a2, a3, a4⟩ := h.bxs.ge
  have hsz := h.size
  have hw0 := h.below.size
  have hsame : ∀ i, i < W.heap.size → i ≠ bf → i ≠ bl → hd.ownBlock ≠ some i → (w4.setCell ⟨bl, 0, none⟩ (.slice (some ⟨g4, 0, none⟩) (pre.length + 1) c4)).heap[i]? = W.heap[i]? := fun i hi h1 h2 h3 =>
    ((Below.heap_setCell _ _ _ _ h2).trans (hold i hi h3)).trans (Below.heap_setCell _ _ _ _ h1)
  have ho := h.own
  have hob : ∀ b, b = bw ∨ b = br ∨ b = bl ∨ b = bf → hd.ownBlock ≠ some b := fun b hb e => by
    obtain ⟨_, o1, o2, o3, o4, _⟩ := ho b e
    rcases hb with rfl | rfl | rfl | rfl
    · exact o1 rfl
    · exact o2 rfl
    · exact o3 rfl
    · exact o4 rfl
  have hoF : ∀ b, b ∈ F ++ G → hd.ownBlock ≠ some b := fun b hb e => (ho b e).2.2.2.2.2 hb
  have hz5 : W.heap.size ≤ (w4.setCell ⟨bl, 0, none⟩ (.slice (some ⟨g4, 0, none⟩) (pre.length + 1) c4)).heap.size := by simpa using hz
  have hg4 : w.heap.size ≤ g4 ∧ g4 ≠ bw ∧ g4 ≠ br ∧ g4 ≠ bl ∧ g4 ≠ bf ∧ g4 ∉ F ++ G := by
    rcases hown with e | e
    · exact ho g4 e
    · exact ⟨by omega, by omega, by omega, by omega, by omega, fun hx => by have := h.bxs.flt g4 hx; omega⟩
  have hf1 : Blk (W.setCell ⟨bf, 0, none⟩ (.int .i64 (x.1 : Nat))) bf #[.int .i64 (x.1 : Nat)] INT := h.hf.set 0 _
  have hf4 : Blk w4 bf #[.int .i64 (x.1 : Nat)] INT := (hold bf (by omega) (hob bf (by simp))).trans hf1
  have hl4 : Blk w4 bl #[hd] ITS := (hold bl (by omega) (hob bl (by simp))).trans (h.hl.other (a := ⟨bf, 0, none⟩) n6 _)
  refine ⟨⟨h.bxs, Nat.le_trans hsz hz5, (hsame bw (by omega) n3 n2 (hob bw (by simp))).trans h.hw, (hsame br (by omega) n5 n4 (hob br (by simp))).trans h.hr, hl4.set 0 _, hf4.other (a := ⟨bl, 0, none⟩) (Ne.symm n6) _, ?_, ?_, topL_snoc h.top x h1, ?_,
    h.q.same hz5 fun i hi hF => ?_, h.r.same hz5 fun i hi hG => ?_, ?_⟩, ⟨hz5, fun k o hk hc => ?_⟩, ⟨hz5, fun i hi hb hn _ => ?_, fun g hg => ?_⟩⟩
  · refine .inr ⟨g4, c4, by simp, ?_⟩
    rw [List.map_append]
    exact hR.other (a := ⟨bl, 0, none⟩) hg4.2.2.2.1 _
  · intro g hg
    have hg : some g4 = some g := hg
    injection hg with hg
    subst hg
    exact hg4
  · refine ⟨?_, fun y hy => ?_⟩
    · rw [List.pairwise_append]
      refine ⟨h.rise.up, by simp, fun y hy z hz => ?_⟩
      rw [List.mem_singleton] at hz
      subst hz
      exact Nat.le_trans (h.top.top y hy) h1
    · rcases List.mem_append.1 hy with hy | hy
      · exact h.rise.lt y hy
      · rw [List.mem_singleton] at hy; rw [hy]; exact h2
  · have := h.bxs.out i (List.mem_append_left _ hF)
    exact hsame i hi this.2.2.2 this.2.2.1 (hoF i (List.mem_append_left _ hF))
  · have := h.bxs.out i (List.mem_append_right _ hG)
    exact hsame i hi this.2.2.2 this.2.2.1 (hoF i (List.mem_append_right _ hG))
  · refine h.below.trans ⟨e1, e2, e3, hz5, fun k hk => hsame k (by omega) (by omega) (by omega) fun e => ?_⟩
    have := (ho k e).1
    omega
  · rw [hsame k (Array.getElem?_eq_some_iff.1 hk).1 (fun e => ?_) (fun e => ?_) (fun e => ?_)]
    · exact hk
    · subst e; rw [show W.heap[k]? = _ from h.hf] at hk; cases hk; cases hc
    · subst e; rw [show W.heap[k]? = _ from h.hl] at hk; cases hk; cases hc
    · rcases h.list with e2 | ⟨g, c, e2, hR2⟩
      · rw [e2.1] at e; cases e
      · rw [e2] at e
        have e : some g = some k := e
        injection e with e
        subst e
        obtain ⟨cur, hb, _⟩ := hR2.blk
        rw [show W.heap[g]? = _ from hb] at hk
        cases hk
        cases hc
  · have hb' : i ≠ bf ∧ i ≠ bl := by simpa using hb
    refine hsame i hi hb'.1 hb'.2 fun e => hn ?_
    unfold ownB
    rw [h.hl.cell (o := 0) rfl]
    exact e
  · unfold ownB at hg ⊢
    rw [(hl4.set 0 (.slice (some ⟨g4, 0, none⟩) (pre.length + 1) c4)).cell (o := 0) (v := .slice (some ⟨g4, 0, none⟩) (pre.length + 1) c4) rfl] at hg
    rw [h.hl.cell (o := 0) rfl]
    have hg : some g4 = some g := hg
    injection hg with hg
    subst hg
    exact hown
end
/-- append of rows of the reference's, as a run: nil too. -/
theorem append_rows_run (W : World) (g c : Nat) (hdY : Value) (xs ys : List RRow) (hH : Recs encR 5 W RT g c xs) (hY : Hdr encR 5 W RT hdY ys) (hsm : xs.length + ys.length ≤ 1000000) :
    ∃ g' c' w', (Builtin.append_ #[RST, RST] RST #[.slice (some ⟨g, 0, none⟩) xs.length c, hdY]).run Try.prog W = .ok (.slice (some ⟨g', 0, none⟩) (xs.length + ys.length) c') w' ∧
      Recs encR 5 w' RT g' c' (xs ++ ys) ∧ (∀ i, i < W.heap.size → i ≠ g → w'.heap[i]? = W.heap[i]?) ∧ (g' = g ∨ W.heap.size ≤ g') ∧ W.heap.size ≤ w'.heap.size ∧ w'.os = W.os ∧ w'.tape = W.tape ∧ w'.output = W.output := by
  rcases hY with ⟨rfl, rfl⟩ | ⟨b, cb, rfl, hY⟩
  · refine ⟨g, c, W, append_nil_run (P := Try.prog) (W := W) RST RST RT _ 40 Try.underlying106 infoR encR_len (hd := .slice (some ⟨g, 0, none⟩) xs.length c) (xs := xs) (.inr ⟨g, c, rfl, hH⟩), by simpa using hH, fun _ _ _ => rfl, .inl rfl, Nat.le_refl _, rfl, rfl, rfl⟩
  · obtain ⟨g', c', w', h1, h2, h3, h4, h5⟩ := append_hdr_run (P := Try.prog) (W := W) RST RST RT _ 40 Try.underlying106 infoR rfl (by decide) encR_len encR_one (hd := .slice (some ⟨g, 0, none⟩) xs.length c) (.inr ⟨g, c, rfl, hH⟩) hY (.inl (by simp)) hsm (by decide)
    refine ⟨g', c', w', h1, h2, fun i hi hn => h3 i hi fun e => hn ?_, ?_, h5⟩
    · exact (Option.some.inj (show some g = some i from e)).symm
    · rcases h4 with e | e
      · exact .inl (Option.some.inj (show some g = some g' from e)).symm
      · exact .inr e
theorem allTo_len {n m : Nat} {s : QRun} {log : List RRow} (h : LikeQ n s log) (hok : OkQ n s m) {k : Nat} (hk : k ≤ n) : (allTo log k).length ≤ m := by
  have h1 := congrArg List.length (h.each k hk)
  rw [List.length_map, List.length_map, eachTo_len hok k hk] at h1
  have h2 := sumTo_mono s k n hk
  rw [sumTo_all hok] at h2
  have := hok.few
  omega
/-- What stands when all has been gathered. -/
structure EndE (w W0 W : World) (p : Nat) (F : List Nat) (n m : Nat) (s : QRun) (rp : Nat) (G : List Nat) (log : List RRow) (bw br bl bf : Nat) (fv : Nat) (hd : Value) (g c D : Nat) : Prop where
  i : InE w W0 W p F n m s rp G log bw br bl bf (eachTo s n) fv hd
  a : Recs encR 5 W RT g c (allTo log n)
  d : W.heap[D]? = some (.deferred (some []))
section
variable {w W0 W W' : World} {p : Nat} {F : List Nat} {n m : Nat} {s : QRun} {rp : Nat} {G : List Nat} {log : List RRow} {bw br bl bf : Nat} {fv : Nat} {hd : Value} {g c D : Nat}
theorem EndE.on (h : EndE w W0 W p F n m s rp G log bw br bl bf fv hd g c D) (k : Below W.heap.size W W') : EndE w W0 W' p F n m s rp G log bw br bl bf fv hd g c D := ⟨h.i.on k, h.a.below k, (k.block D (Array.getElem?_eq_some_iff.1 h.d).1).trans h.d⟩
theorem EndE.cells (h : EndE w W0 W p F n m s rp G log bw br bl bf fv hd g c D) : W.cell? ⟨bl, 0, none⟩ = some hd ∧ W.cell? ⟨bw, 0, none⟩ = some (.int .i64 (n : Nat)) ∧ W.cell? ⟨br, 0, none⟩ = some (.bool false) ∧ W.frozen? ⟨br, 0, none⟩ = false :=
  ⟨h.i.hl.cell (o := 0) rfl, h.i.hw.cell (o := 0) rfl, h.i.hr.cell (o := 0) rfl, h.i.hr.free 0⟩
theorem EndE.last (h : EndE w W0 W p F n m s rp G log bw br bl bf fv hd g c D) : (W.setCell ⟨br, 0, none⟩ (.bool true)).cell? ⟨bl, 0, none⟩ = some hd ∧ (W.setCell ⟨br, 0, none⟩ (.bool true)).cell? ⟨bw, 0, none⟩ = some (.int .i64 (n : Nat)) := by
  obtain ⟨n1, n2, n3, n4, n5, n6⟩ := h.i.bxs.ne
  exact ⟨(h.i.hl.other (a := ⟨br, 0, none⟩) (Ne.symm n4) _).cell (o := 0) rfl, (h.i.hw.other (a := ⟨br, 0, none⟩) n1 _).cell (o := 0) rfl⟩
/-- The block for the rounds' deferred calls, and what the call leaves. -/
theorem EndE.out (h : EndE w W0 W p F n m s rp G log bw br bl bf fv hd g c D) (hD : w.heap.size ≤ D) : (W.setCell ⟨br, 0, none⟩ (.bool true)).heap[D]? = some (.deferred (some [])) ∧
    ((W.setCell ⟨br, 0, none⟩ (.bool true)).putObj D (.deferred none)).cell? ⟨br, 0, none⟩ = some (.bool true) ∧ Below w.heap.size w ((W.setCell ⟨br, 0, none⟩ (.bool true)).putObj D (.deferred none)) := by
  have hne : D ≠ br := fun e => by
    have h1 := h.i.hr
    rw [← e, show Blk W D #[.bool false] BOOL = (W.heap[D]? = some (.cells #[.bool false] BOOL (0, 0))) from rfl, h.d] at h1
    cases h1
  have hd : (W.setCell ⟨br, 0, none⟩ (.bool true)).heap[D]? = some (.deferred (some [])) := (Below.heap_setCell _ _ _ _ hne).trans h.d
  have hb := h.i.below.setCell (p := ⟨br, 0, none⟩) h.i.bxs.ge.2.1 (.bool true)
  have hlt := (Array.getElem?_eq_some_iff.1 hd).1
  refine ⟨hd, ?_, hb.trans (belowK_b (w := w) (Nat.le_refl _) _ D _ _ hD hd rfl rfl)⟩
  rw [cell_of_heap (World.putObj_heap_other (fun e => hne e.symm))]
  exact (h.i.hr.set 0 (.bool true)).cell (o := 0) rfl
end
theorem results_cell1 {fn : Func} (h : fn.results = #[.cell 10 BOOL]) (tmps : Array Value) (w : World) (g : Nat) (b : Bool) (hp : tmps.getD 10 undef = .pointer (some ⟨g, 0, none⟩)) (hc : w.cell? ⟨g, 0, none⟩ = some (.bool b)) :
    (results fn tmps).run Try.prog w = .ok (.bool b) w := by
  have hp' : tmps[10]?.getD undef = .pointer (some ⟨g, 0, none⟩) := by simpa using hp
  simp [results, h, hp', asAddr, go_sem, hc]
end Go.Proofs.Ytchnhmcedmicgaa.Rem
