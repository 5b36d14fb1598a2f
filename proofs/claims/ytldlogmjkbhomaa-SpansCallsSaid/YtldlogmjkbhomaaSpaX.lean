/- The document's pages in memory, and the contracts of package underpinref08's New and Runs. -/
import Derived.Test.YtldlogmjkbhomaaSpaV
import Derived.Test.YtldlogmjkbhomaaAidApp
set_option linter.unusedSimpArgs false
namespace Go.Proofs.Ytldlogmjkbhomaa.Spa
open Go.RowKit Go.Proofs.Ytldlogmjkbhomaa.Aid
abbrev DT : TypeId := 149
abbrev RT2 : TypeId := 102
abbrev RS2 : TypeId := 96
abbrev IT : TypeId := 3
theorem info_int : (Try.prog.info? IT).map (fun i => (i.zero, i.size, i.bytes)) = some (some (.int .i64 0), 1, 8) := by kernel_rfl
theorem info_run2 : (Try.prog.info? RT2).map (fun i => (i.zero, i.size, i.bytes)) = some (some (.agg #[.int .i64 0, .int .i64 0, .bool false]), 3, 24) := by kernel_rfl
def vals (xs : List Int) : List Value := xs.map (Value.int .i64)
/-- Where the pages lie. -/
structure RfP (w : World) (q : Nat) (G : List Nat) (P : Nat) (xs : List Rn) (pb : Nat) : Prop where
  head : Blk w q #[.slice (some ⟨pb, 0, none⟩) P P] DT
  row : Row w IT pb P (vals (pagesOf xs))
  ins : q ∈ G ∧ pb ∈ G
  ne : q ≠ pb
  flt : ∀ x ∈ G, x < w.heap.size
structure RfAt (w : World) (q : Nat) (G : List Nat) (P : Nat) (xs : List Rn) : Prop where
  ok : OkS P xs
  ex : ∃ pb, RfP w q G P xs pb
section
variable {w w' : World} {q P : Nat} {G : List Nat} {xs : List Rn} {pb : Nat}
theorem RfP.same (h : RfP w q G P xs pb) (hz : w.heap.size ≤ w'.heap.size) (hb : ∀ i, i < w.heap.size → i ∈ G → w'.heap[i]? = w.heap[i]?) : RfP w' q G P xs pb :=
  ⟨(hb q h.head.lt h.ins.1).trans h.head, h.row.block (hb pb h.row.lt h.ins.2), h.ins, h.ne, fun x hx => Nat.lt_of_lt_of_le (h.flt x hx) hz⟩
theorem RfAt.kept (h : RfAt w q G P xs) {H : List Nat} (k : Kept H w w') (hF : ∀ x ∈ G, x ∉ H) : RfAt w' q G P xs := by
  obtain ⟨pb, h1⟩ := h.ex
  exact ⟨h.ok, pb, h1.same k.size fun i hi hF' => k.block i hi (hF i hF')⟩
theorem RfAt.below (h : RfAt w q G P xs) (k : Below w.heap.size w w') : RfAt w' q G P xs := by
  obtain ⟨pb, h1⟩ := h.ex
  exact ⟨h.ok, pb, h1.same k.size fun i hi _ => k.block i hi⟩
theorem RfAt.flt (h : RfAt w q G P xs) : ∀ x ∈ G, x < w.heap.size := by
  obtain ⟨pb, h1⟩ := h.ex
  exact h1.flt
theorem vals_at {l : List Int} {i : Nat} {v : Int} (h : l[i]? = some v) : (vals l)[i]? = some (.int .i64 v) := by unfold vals; rw [List.getElem?_map, h]; rfl
theorem vals_len (l : List Int) : (vals l).length = l.length := by unfold vals; rw [List.length_map]
theorem row_at {l : List Int} {g c i : Nat} {v : Int} (h : Row w IT g c (vals l)) (hv : l[i]? = some v) : w.cell? ⟨g, i, none⟩ = some (.int .i64 v) := by
  rw [h.cell (by rw [vals_len]; exact (List.getElem?_eq_some_iff.1 hv).1), vals_at hv]
end
theorem pages0 (P : Nat) : pagesOf (xs0 P) = List.replicate P 0 := by
  unfold xs0
  by_cases e : P = 0
  · rw [if_pos e, e]; rfl
  · rw [if_neg e]; simp [pagesOf, valR]
theorem rnew_no (w : World) (n : Int) (h : n < 0 ∨ 4096 < n) : Calls Try.prog 47 #[.int .i64 n] w fun e w' => e = .returned (.tuple #[.pointer none, .int .i64 11]) ∧ w = w' := by
  by_cases h0 : n < 0
  · clear h
    go_enter Try.func47, Try.ntmps47
    go_wp2
    go_ret2
    exact ⟨rfl, rfl⟩
  · have h1 : 4096 < n := by omega
    clear h
    go_enter Try.func47, Try.ntmps47
    go_wp2
    go_ret2
    exact ⟨rfl, rfl⟩
theorem rnew_yes (w : World) (P : Nat) (h : P ≤ 4096) : Calls Try.prog 47 #[.int .i64 P] w fun e w' => ∃ q, e = .returned (.tuple #[.pointer (some ⟨q, 0, none⟩), .int .i64 0]) ∧ ∃ G, RfAt w' q G P (xs0 P) ∧ (∀ x ∈ G, w.heap.size ≤ x) ∧ Below w.heap.size w w' := by
  have hok := Lib.hid (ok0 h)
  have g1 : ¬ (P : Int) < 0 := by omega
  have g2 : ¬ (4096 : Int) < P := by omega
  go_enter Try.func47, Try.ntmps47
  go_wp2_with (at_make; refine make_row _ rfl _ _ 68 rfl IT Try.underlying68 (.int .i64 0) 8 rfl info_int _ _ P rfl rfl (by omega) (by decide) ?_; intro w1 hr1 hlt1 hb1)
  go_ret2
  refine ⟨w1.heap.size, rfl, [w1.heap.size, w.heap.size], ⟨hok.out, w.heap.size, ⟨Blk.new w1 _ DT, ?_, by simp, by omega, fun x hx => ?_⟩⟩, fun x hx => ?_, hb1.alloc hb1.size _⟩
  · rw [pages0]
    unfold vals
    rw [List.map_replicate]
    exact hr1.alloc _
  · simp at hx ⊢
    omega
  · simp at hx
    omega
/-- The runs of the first i pages. -/
def Part (xs : List Rn) (i : Nat) (ys : List Rn) : Prop := (i = 0 ∧ ys = []) ∨ ∃ k m, k < xs.length ∧ 1 ≤ m ∧ m ≤ (xs.getD k r0).n ∧ i = (xs.getD k r0).p + m ∧ ys = xs.take k ++ [⟨(xs.getD k r0).p, m, (xs.getD k r0).t⟩]
theorem val_pos (r : Rn) : decide (0 < valR r) = r.t := by
  unfold valR
  cases r.t
  · simp
  · simp
theorem val_bd {P : Nat} {xs : List Rn} (h : OkS P xs) {k : Nat} (hk : k < xs.length) : 0 ≤ valR (xs.getD k r0) ∧ valR (xs.getD k r0) ≤ 4097 := by
  have := pos_n h hk
  have := h.n
  unfold valR
  split <;> omega
theorem part_len {P : Nat} {xs : List Rn} (h : OkS P xs) {i : Nat} {ys : List Rn} (hp : Part xs i ys) : ys.length ≤ 4096 := by
  have := len_le h
  rcases hp with ⟨_, rfl⟩ | ⟨k, m, hk, _, _, _, rfl⟩
  · simp
  · simp; omega
theorem part_step {P : Nat} {xs : List Rn} (h : OkS P xs) {i : Nat} {ys : List Rn} (hp : Part xs i ys) (hi : i < P) :
    ∃ v, (pagesOf xs)[i]? = some v ∧ 0 ≤ v ∧ v ≤ 4097 ∧ ((∃ A r, 0 < i ∧ (pagesOf xs)[i - 1]? = some v ∧ ys = A ++ [r] ∧ r.n ≤ 4096 ∧ Part xs (i + 1) (A ++ [⟨r.p, r.n + 1, r.t⟩])) ∨
      ((i = 0 ∨ ∃ u, (pagesOf xs)[i - 1]? = some u ∧ v ≠ u) ∧ Part xs (i + 1) (ys ++ [⟨i, 1, decide (0 < v)⟩]))) := by
  have h4 := h.n
  rcases hp with ⟨rfl, rfl⟩ | ⟨k, m, hk, m1, m2, rfl, rfl⟩
  · obtain ⟨k, hk, h1, h2⟩ := has_page xs h.ch 0 (Nat.le_refl _) hi
    have hk0 : k = 0 := by
      rcases Nat.eq_zero_or_pos k with e | e
      · exact e
      · have := mono_p h e hk
        have := pos_n h (show 0 < xs.length by omega)
        omega
    subst hk0
    refine ⟨_, pages_at h hk h1 h2, (val_bd h hk).1, (val_bd h hk).2, .inr ⟨.inl rfl, .inr ⟨0, 1, hk, Nat.le_refl _, by omega, by omega, ?_⟩⟩⟩
    have hp0 : (xs.getD 0 r0).p = 0 := by omega
    rw [val_pos, hp0]
    rfl
  · have hpn := pos_n h hk
    by_cases hm : m < (xs.getD k r0).n
    · refine ⟨_, pages_at h hk (by omega) (by omega), (val_bd h hk).1, (val_bd h hk).2, .inl ⟨xs.take k, ⟨(xs.getD k r0).p, m, (xs.getD k r0).t⟩, by omega, pages_at h hk (by omega) (by omega), rfl, by show m ≤ 4096; omega, .inr ⟨k, m + 1, hk, by omega, by omega, by omega, rfl⟩⟩⟩
    · obtain rfl : m = (xs.getD k r0).n := by omega
      have hk1 : k + 1 < xs.length := by
        apply Classical.byContradiction
        intro hn
        have hc := h.ch
        rw [split_at hk, List.drop_of_length_le (show xs.length ≤ k + 1 by omega)] at hc
        obtain ⟨_, _, _, _, c2⟩ := chain_in hc
        have : (xs.getD k r0).p + (xs.getD k r0).n = P := c2
        omega
      have hp1 : (xs.getD (k + 1) r0).p = (xs.getD k r0).p + (xs.getD k r0).n := by
        have hc := h.ch
        rw [split_at hk, show xs.drop (k + 1) = xs.getD (k + 1) r0 :: xs.drop (k + 2) by rw [getD_at hk1]; exact List.drop_eq_getElem_cons hk1] at hc
        obtain ⟨_, _, _, _, c2⟩ := chain_in hc
        exact c2.1
      have hpn1 := pos_n h hk1
      refine ⟨_, pages_at h hk1 (by omega) (by omega), (val_bd h hk1).1, (val_bd h hk1).2, .inr ⟨.inr ⟨_, pages_at h hk (by omega) (by omega), val_ne h hk1⟩, .inr ⟨k + 1, 1, hk1, Nat.le_refl _, by omega, by omega, ?_⟩⟩⟩
      rw [val_pos, take_snocR hk, ← hp1]
theorem part_end {P : Nat} {xs : List Rn} (h : OkS P xs) {ys : List Rn} (hp : Part xs P ys) : ys = xs := by
  rcases hp with ⟨e, rfl⟩ | ⟨k, m, hk, m1, m2, e, rfl⟩
  · have hc := h.ch
    cases xs with
    | nil => rfl
    | cons r rs =>
      have := chain_le _ hc
      simp at this
      omega
  · have hc := h.ch
    rw [split_at hk] at hc
    obtain ⟨_, _, c3, _, _⟩ := chain_in hc
    have hd : xs.drop (k + 1) = [] := List.eq_nil_of_length_eq_zero (by omega)
    conv => rhs; rw [split_at hk, hd]
    have : m = (xs.getD k r0).n := by omega
    rw [this]
end Go.Proofs.Ytldlogmjkbhomaa.Spa
