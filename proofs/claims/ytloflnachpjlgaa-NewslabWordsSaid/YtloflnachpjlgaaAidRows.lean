/- Slices of the call's own whose elements take several cells: what they own, and append of one element, in a plain region and in one that draws its order. Nothing of the program stands here. -/
import Derived.Test.YtloflnachpjlgaaAidMem
import Derived.Deep.AppendLies
import Derived.RegionTactic
import Derived.Laws.MakeOwn
import Derived.Laws.OwnMore
namespace Go.Proofs.Ytloflnachpjlgaa.Aid
open Go.RowKit
section
variable {α : Type} {enc : α → List Value}
/-- A slice of the call's own, its elements told by their cells. -/
def OwnR (enc : α → List Value) (size : Nat) (w : World) (base : Nat) (e : TypeId) (v : Value) (xs : List α) : Prop := w.ownsRow base e size v xs.length (xs.flatMap enc)
theorem OwnR.nil (w : World) (base : Nat) (e : TypeId) (size : Nat) : OwnR enc size w base e (.slice none 0 0) [] := World.ownsRow_nil _ _ _ _
theorem own_lit0 (w : World) (base : Nat) (hb : base ≤ w.heap.size) (e : TypeId) (size : Nat) : (w.alloc (.cells #[] e)).ownsRow base e size (.slice (some ⟨w.heap.size, 0, none⟩) 0 0) 0 [] :=
  ⟨by simp, .inr ⟨w.heap.size, 0, #[], rfl, hb, heap_alloc_new w _, Nat.le_refl _, Nat.zero_le _, by simp, by simp⟩⟩
theorem OwnR.lit0 (w : World) (base : Nat) (hb : base ≤ w.heap.size) (e : TypeId) (size : Nat) : OwnR enc size (w.alloc (.cells #[] e)) base e (.slice (some ⟨w.heap.size, 0, none⟩) 0 0) [] := own_lit0 w base hb e size
theorem Own.lit0 (w : World) (base : Nat) (hb : base ≤ w.heap.size) (e : TypeId) (q : IntKind) : Own (w.alloc (.cells #[] e)) base e q (.slice (some ⟨w.heap.size, 0, none⟩) 0 0) [] := own_lit0 w base hb e 1
theorem OwnR.below {size : Nat} {w w' : World} {base : Nat} {e : TypeId} {v : Value} {xs : List α} (h : OwnR enc size w base e v xs) (hb : Below w.heap.size w w') : OwnR enc size w' base e v xs := by
  obtain ⟨h1, h2⟩ := h
  refine ⟨h1, ?_⟩
  rcases h2 with h2 | ⟨g, cap, cur, hv, hg, hh, r⟩
  · exact .inl h2
  · refine .inr ⟨g, cap, cur, hv, hg, ?_, r⟩
    rw [hb.block g ?_]
    · exact hh
    · rcases Nat.lt_or_ge g w.heap.size with hlt | hge
      · exact hlt
      · rw [Array.getElem?_eq_none hge] at hh; cases hh
theorem OwnR.alloc {size : Nat} {w : World} {base : Nat} {e : TypeId} {v : Value} {xs : List α} (h : OwnR enc size w base e v xs) (o : Obj) : OwnR enc size (w.alloc o) base e v xs := World.ownsRow.alloc h o
theorem OwnR.base_le {size : Nat} {w : World} {base : Nat} {e : TypeId} {v : Value} {xs : List α} (h : OwnR enc size w base e v xs) : ∀ k, v.ownBlock = some k → base ≤ k ∧ k < w.heap.size := World.ownsRow.lt h
theorem flat_len {size : Nat} (henc : ∀ x, (enc x).length = size) : ∀ xs : List α, (xs.flatMap enc).length = xs.length * size
  | [] => by simp
  | x :: xs => by rw [List.flatMap_cons, List.length_append, flat_len henc xs, henc, List.length_cons, Nat.succ_mul, Nat.add_comm]
theorem flat_get {size : Nat} (henc : ∀ x, (enc x).length = size) : ∀ (xs : List α) (k j : Nat) (x : α), xs[k]? = some x → j < size → (xs.flatMap enc)[k * size + j]? = (enc x)[j]?
  | [], k, j, x, h, _ => by simp at h
  | y :: xs, 0, j, x, h, hj => by
    simp at h; subst h
    rw [List.flatMap_cons, Nat.zero_mul, Nat.zero_add, List.getElem?_append_left (by rw [henc]; exact hj)]
  | y :: xs, k + 1, j, x, h, hj => by
    rw [List.flatMap_cons, List.getElem?_append_right (by rw [henc, Nat.succ_mul]; omega), henc, show (k + 1) * size + j - size = k * size + j by rw [Nat.succ_mul]; omega]
    exact flat_get henc xs k j x (by simpa using h) hj
/-- Where the cells of an owned slice lie. -/
theorem OwnR.shape {size : Nat} (henc : ∀ x, (enc x).length = size) {w : World} {base : Nat} {e : TypeId} {v : Value} {xs : List α} (h : OwnR enc size w base e v xs) :
    ∃ A c, v = .slice A xs.length c ∧ ∀ k x, xs[k]? = some x → ∃ b, A = some ⟨b, 0, none⟩ ∧ base ≤ b ∧ b < w.heap.size ∧ ∀ j u, (enc x)[j]? = some u → w.cell? ⟨b, k * size + j, none⟩ = some u := by
  have h' := h
  obtain ⟨_, h2⟩ := h'
  rcases h2 with ⟨rfl, h0⟩ | ⟨g, cap, cur, rfl, hg, hh, hn, _, hs, ht⟩
  · exact ⟨none, 0, by rw [h0], fun k x hk => by rw [List.eq_nil_of_length_eq_zero h0] at hk; simp at hk⟩
  · refine ⟨_, _, rfl, fun k x hk => ⟨g, rfl, hg, ?_, fun j u hu => ?_⟩⟩
    · rcases Nat.lt_or_ge g w.heap.size with hlt | hge
      · exact hlt
      · rw [Array.getElem?_eq_none hge] at hh; cases hh
    · have hj : j < size := by
        have := (List.getElem?_eq_some_iff.1 hu).1
        rw [henc] at this; exact this
      have hkl : k < xs.length := (List.getElem?_eq_some_iff.1 hk).1
      have hle : k * size + j < xs.length * size := by
        have : (k + 1) * size ≤ xs.length * size := Nat.mul_le_mul_right _ hkl
        rw [Nat.succ_mul] at this; omega
      rw [World.ownsRow.cellAt h _ hle, flat_get henc xs k j x hk hj, hu]
end
section
variable {P : Program} {W : World} {ops : Array Oper} {rest : List Oper} {o : Oper} {a : Act} {Q : Exit → Act → World → Prop} {K : Act → World → Prop}
/-- append of one element. -/
theorem append_row (hgd : o.guard = none) (s x : Operand) (t : TypeId)
    (ho : o.op = .call { callee := .builtin .append, args := #[s, x], argTypes := #[t, t] }) (base : Nat) (e : TypeId) (z : Value) (size bytes : Nat) (ht : P.underlying t = some (.slice e))
    (hinfo : (P.info? e).map (fun i => (i.zero, i.size, i.bytes)) = some (some z, size, bytes)) (hz : z.cells.size = size) (hs0 : 0 < size) (v : Value) (n : Nat) (xs ys : List Value) (hs : a.eval s = v) (hown : W.ownsRow base e size v n xs)
    (hx : a.eval x = .slice (some ⟨W.heap.size, 0, none⟩) 1 1) (hys : ys.length = size) (h1 : ∀ u ∈ ys, u.oneCell' = true) (h63 : n + 1 ≤ 140737488355328) (hl : (n + 1) * bytes ≤ 140737488355328) (hbase : base ≤ W.heap.size)
    (h : ∀ v' w', w'.ownsRow base e size v' (n + 1) (xs ++ ys) → Below base W w' → W.grownBy w' v.ownBlock → wpList P ops Q rest (a.put o.dst v') w') :
    wpList P ops Q (o :: rest) a (W.alloc (.cells ys.toArray e)) := by
  obtain ⟨i0, hi, hz0, hz1, hz2⟩ := info_parts hinfo
  refine wpList_append_own (W.alloc (.cells ys.toArray e)) hgd s x t ho base e i0 z size bytes ht hi hz0 hz1 hz2 hz hs0 v n xs hs (hown.alloc _) ⟨W.heap.size, 0, none⟩ 1 1 ys hx (by omega) ?_ h1 ?_ hl ?_ ?_
  · simpa using World.news_of_block (cs := ys.toArray) (t := e) (fr := (0, 0)) (heap_alloc_new W (.cells ys.toArray e))
  · unfold maxLen; omega
  · simp; omega
  · intro v' w' h2 h3 _
    have hg := (World.grownBy_alloc W (.cells ys.toArray e) v.ownBlock).trans h3
    exact h v' w' h2 ((Below.refl base W).grown hg hbase (fun k hk => (World.ownsRow.lt hown k hk).1)) hg
/-- append of one element, a step of a region that draws its order. -/
theorem step_append_row {E : Prop} (hgd : o.guard = none) (s x : Operand) (t : TypeId)
    (ho : o.op = .call { callee := .builtin .append, args := #[s, x], argTypes := #[t, t] }) (base : Nat) (e : TypeId) (z : Value) (size bytes : Nat) (ht : P.underlying t = some (.slice e))
    (hinfo : (P.info? e).map (fun i => (i.zero, i.size, i.bytes)) = some (some z, size, bytes)) (hz : z.cells.size = size) (hs0 : 0 < size) (v : Value) (n : Nat) (xs ys : List Value) (hs : a.eval s = v) (hown : W.ownsRow base e size v n xs)
    (hx : a.eval x = .slice (some ⟨W.heap.size, 0, none⟩) 1 1) (hys : ys.length = size) (h1 : ∀ u ∈ ys, u.oneCell' = true) (h63 : n + 1 ≤ 140737488355328) (hl : (n + 1) * bytes ≤ 140737488355328) (hbase : base ≤ W.heap.size)
    (h : ∀ v' w', w'.ownsRow base e size v' (n + 1) (xs ++ ys) → Below base W w' → W.grownBy w' v.ownBlock → K (a.put o.dst v') w') :
    if Region.wanted o (yielded ops a.tmps) = true then Oper.wp P o a (W.alloc (.cells ys.toArray e)) K Q else E := by
  have hw : Region.wanted o (yielded ops a.tmps) = true := by simp [Region.wanted, hgd]
  obtain ⟨i0, hi, hz0, hz1, hz2⟩ := info_parts hinfo
  rw [if_pos hw]
  refine wp_append_own (W.alloc (.cells ys.toArray e)) s x t ho base e i0 z size bytes ht hi hz0 hz1 hz2 hz hs0 v n xs hs (hown.alloc _) ⟨W.heap.size, 0, none⟩ 1 1 ys hx (by omega) ?_ h1 ?_ hl ?_ ?_
  · simpa using World.news_of_block (cs := ys.toArray) (t := e) (fr := (0, 0)) (heap_alloc_new W (.cells ys.toArray e))
  · unfold maxLen; omega
  · simp; omega
  · intro v' w' h2 h3 _
    have hg := (World.grownBy_alloc W (.cells ys.toArray e) v.ownBlock).trans h3
    exact h v' w' h2 ((Below.refl base W).grown hg hbase (fun k hk => (World.ownsRow.lt hown k hk).1)) hg
end
/-- A row of bools that the call made. -/
def Bools (w : World) (base : Nat) (e : TypeId) (g n : Nat) (us : List Bool) : Prop := us.length = n ∧ w.ownsRow base e 1 (.slice (some ⟨g, 0, none⟩) n n) n (us.map Value.bool)
theorem Bools.cell {w : World} {base : Nat} {e : TypeId} {g n : Nat} {us : List Bool} (h : Bools w base e g n us) (j : Nat) (hj : j < n) : w.cell? ⟨g, j, none⟩ = some (.bool (us.getD j false)) := by
  rw [World.ownsRow.cellAt h.2 j (by omega), List.getElem?_map, List.getD_eq_getElem?_getD, List.getElem?_eq_getElem (by rw [h.1]; exact hj)]; rfl
theorem Bools.free {w : World} {base : Nat} {e : TypeId} {g n : Nat} {us : List Bool} (h : Bools w base e g n us) (j : Nat) : w.frozen? ⟨g, j, none⟩ = false := World.ownsRow.frozenAt h.2 j
theorem Bools.lt {w : World} {base : Nat} {e : TypeId} {g n : Nat} {us : List Bool} (h : Bools w base e g n us) : base ≤ g ∧ g < w.heap.size := World.ownsRow.lt h.2 g rfl
theorem Bools.store {w : World} {base : Nat} {e : TypeId} {g n : Nat} {us : List Bool} (h : Bools w base e g n us) (j : Nat) (b : Bool) : Bools (w.setCell ⟨g, j, none⟩ (.bool b)) base e g n (us.set j b) := by
  refine ⟨by rw [List.length_set]; exact h.1, ?_⟩
  have := (World.ownsRow.stored h.2 j (.bool b)).1
  rwa [← List.map_set] at this
theorem Bools.below {w w' : World} {base : Nat} {e : TypeId} {g n : Nat} {us : List Bool} (h : Bools w base e g n us) (hb : Below w.heap.size w w') : Bools w' base e g n us := by
  obtain ⟨h0, h1, h2⟩ := h
  refine ⟨h0, h1, ?_⟩
  rcases h2 with h2 | ⟨g', cap, cur, hv, hg, hh, r⟩
  · exact .inl h2
  · refine .inr ⟨g', cap, cur, hv, hg, ?_, r⟩
    rw [hb.block g' ?_]
    · exact hh
    · rcases Nat.lt_or_ge g' w.heap.size with hlt | hge
      · exact hlt
      · rw [Array.getElem?_eq_none hge] at hh; cases hh
/-- make of a row of bools. -/
theorem make_bools {P : Program} (w : World) {ops : Array Oper} {rest : List Oper} {o : Oper} {a : Act} {Q : Exit → Act → World → Prop}
    (hg : o.guard = none) (l c : Operand) (t : TypeId) (hop : o.op = Op.makeSlice t l c) (e : TypeId) (h1 : P.underlying t = some (.slice e)) (hinfo : (P.info? e).map (fun i => (i.zero, i.size, i.bytes)) = some (some (.bool false), 1, 1))
    (kl kc : IntKind) (n : Nat) (hl : a.eval l = .int kl (n : Int)) (hc : a.eval c = .int kc (n : Int)) (hn : n ≤ 1000000)
    (hK : ∀ w', Bools w' w.heap.size e w.heap.size n (List.replicate n false) → Below w.heap.size w w' → wpList P ops Q rest (a.put o.dst (.slice (some ⟨w.heap.size, 0, none⟩) n n)) w') :
    wpList P ops Q (o :: rest) a w := by
  obtain ⟨i0, hi, hz0, hz1, hz2⟩ := info_parts hinfo
  refine wpList_make_full w hg l c t hop w.heap.size e i0 (.bool false) 1 h1 hi hz0 hz1 kl kc _ _ n hl hc rfl rfl (by rw [hz2]; omega) (by unfold maxLen; omega) (Nat.le_refl _) ?_
  intro w' ho hgr
  refine hK w' ⟨by simp, ?_⟩ ((Below.refl _ _).grown hgr (Nat.le_refl _) (fun k hk => by cases hk))
  rw [show (Value.bool false).cells = #[.bool false] from rfl, Nat.mul_one, toList_madeCells_one] at ho
  rw [List.map_replicate]; exact ho
/-- The cells of a pair of numbers. -/
def encP (x : Int × Int) : List Value := [.int .i64 x.1, .int .i64 x.2]
theorem encP_len (x : Int × Int) : (encP x).length = 2 := rfl
theorem OwnR.pairs {w : World} {base : Nat} {e : TypeId} {v : Value} {xs : List (Int × Int)} (h : OwnR encP 2 w base e v xs) : ∃ A c, v = .slice A xs.length c ∧ Pairs w A xs := by
  obtain ⟨A, c, rfl, hc⟩ := h.shape encP_len
  refine ⟨A, c, rfl, fun k hk => ?_⟩
  obtain ⟨b, e, _, hlt, hcell⟩ := hc k (xs.getD k (0, 0)) (by rw [List.getD_eq_getElem?_getD, List.getElem?_eq_getElem hk]; rfl)
  refine ⟨b, 0, e, hlt, ?_, ?_⟩
  · rw [Nat.zero_add]; exact hcell 0 _ rfl
  · rw [Nat.zero_add]; exact hcell 1 _ rfl
end Go.Proofs.Ytloflnachpjlgaa.Aid
