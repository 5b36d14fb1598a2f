/- Small words on objects that a call keeps in blocks of its own and writes to: which blocks may have turned, and what a whole block holds. Nothing of the program stands here. -/
import Derived.Test.YtloflnachpjlgaaAidMem
namespace Go.Proofs.Ytloflnachpjlgaa.Aid
open Go.RowKit
/-- All blocks but those of F are as they were; none has gone. -/
structure Kept (F : List Nat) (w w' : World) : Prop where
  os : w'.os = w.os
  tape : w'.tape = w.tape
  output : w'.output = w.output
  size : w.heap.size ≤ w'.heap.size
  block : ∀ k, k < w.heap.size → k ∉ F → w'.heap[k]? = w.heap[k]?
theorem Kept.refl (F : List Nat) (w : World) : Kept F w w := ⟨rfl, rfl, rfl, Nat.le_refl _, fun _ _ _ => rfl⟩
theorem Kept.trans {F : List Nat} {a b c : World} (h : Kept F a b) (k : Kept F b c) : Kept F a c :=
  ⟨k.os.trans h.os, k.tape.trans h.tape, k.output.trans h.output, Nat.le_trans h.size k.size, fun i hi hF => (k.block i (Nat.lt_of_lt_of_le hi h.size) hF).trans (h.block i hi hF)⟩
/-- A second step may turn new blocks too. -/
theorem Kept.step {F G : List Nat} {a b c : World} (h : Kept F a b) (k : Kept G b c) (hG : ∀ x ∈ G, x ∈ F ∨ a.heap.size ≤ x) : Kept F a c :=
  ⟨k.os.trans h.os, k.tape.trans h.tape, k.output.trans h.output, Nat.le_trans h.size k.size, fun i hi hF =>
    (k.block i (Nat.lt_of_lt_of_le hi h.size) (fun hx => by rcases hG i hx with h1 | h1; exact hF h1; omega)).trans (h.block i hi hF)⟩
theorem Kept.mono {F G : List Nat} {w w' : World} (h : Kept F w w') (hG : ∀ x ∈ F, x ∈ G) : Kept G w w' :=
  ⟨h.os, h.tape, h.output, h.size, fun i hi hF => h.block i hi (fun hx => hF (hG i hx))⟩
theorem Kept.drew {F : List Nat} {a w : World} (h : Kept F a w) : Kept F a w.drew := ⟨h.os, h.tape, h.output, h.size, h.block⟩
theorem Kept.drewN {F : List Nat} {a w : World} (h : Kept F a w) (n : Nat) : Kept F a (w.drewN n) := ⟨h.os, h.tape, h.output, h.size, h.block⟩
theorem Kept.alloc {F : List Nat} {a w : World} (h : Kept F a w) (o : Obj) : Kept F a (w.alloc o) :=
  h.trans ⟨rfl, rfl, rfl, by simp, fun k hk _ => Below.heap_alloc _ _ _ hk⟩
theorem Kept.setCell {F : List Nat} {a w : World} (h : Kept F a w) {p : Addr} (hp : p.block ∈ F ∨ a.heap.size ≤ p.block) (u : Value) : Kept F a (w.setCell p u) :=
  ⟨h.os, h.tape, h.output, by simpa [World.setCell] using h.size, fun i hi hF => (Below.heap_setCell _ _ _ _ (by rintro rfl; rcases hp with h1 | h1; exact hF h1; omega)).trans (h.block i hi hF)⟩
theorem Kept.of_below {w w' : World} (h : Below w.heap.size w w') (F : List Nat) : Kept F w w' := ⟨h.os, h.tape, h.output, h.size, fun k hk _ => h.block k hk⟩
theorem Kept.and_below {F : List Nat} {a w w' : World} (h : Kept F a w) (k : Below w.heap.size w w') : Kept F a w' := h.trans (Kept.of_below k F)
theorem Kept.below {F : List Nat} {B : Nat} {w w' : World} (h : Kept F w w') (hB : B ≤ w.heap.size) (hF : ∀ k ∈ F, B ≤ k) : Below B w w' :=
  ⟨h.os, h.tape, h.output, h.size, fun k hk => h.block k (by omega) (fun hx => by have := hF k hx; omega)⟩
theorem Kept.nil {w w' : World} (h : Kept [] w w') : Below w.heap.size w w' := h.below (Nat.le_refl _) (by simp)
theorem below_kept {B : Nat} {F : List Nat} {a w w' : World} (h : Below B a w) (k : Kept F w w') (hB : B ≤ w.heap.size) (hF : ∀ x ∈ F, B ≤ x) : Below B a w' := h.trans (k.below hB hF)
theorem ret_slice1 {A : Option Addr} {n m c : Nat} (h : n = m) : Ending.returned (.slice A n c) = .returned (.slice A m c) := by rw [h]
theorem ret_slice_i {A : Option Addr} {n m c : Nat} {k : IntKind} {x : Int} (h : n = m) : Ending.returned (.tuple #[.slice A n c, .int k x]) = .returned (.tuple #[.slice A m c, .int k x]) := by rw [h]
theorem ret_slice {A : Option Addr} {n m c : Nat} {b : Bool} (h : n = m) : Ending.returned (.tuple #[.slice A n c, .bool b]) = .returned (.tuple #[.slice A m c, .bool b]) := by rw [h]
/-- Things laid over others. -/
def lay {α : Type} (bs : List α) (a : Nat) (xs : List α) : List α := bs.take a ++ xs ++ bs.drop (a + xs.length)
theorem lay_len {α : Type} (bs xs : List α) (a : Nat) (h : a + xs.length ≤ bs.length) : (lay bs a xs).length = bs.length := by simp [lay]; omega
theorem lay_nil {α : Type} (bs : List α) (a : Nat) : lay bs a [] = bs := by simp [lay]
theorem lay_get? {α : Type} (bs xs : List α) (a k : Nat) (h : a + xs.length ≤ bs.length) : (lay bs a xs)[k]? = if k < a then bs[k]? else if k < a + xs.length then xs[k - a]? else bs[k]? := by
  unfold lay
  by_cases h1 : k < a
  · rw [if_pos h1, List.append_assoc, List.getElem?_append_left (by simp; omega), List.getElem?_take_of_lt h1]
  · rw [if_neg h1]
    by_cases h2 : k < a + xs.length
    · rw [if_pos h2, List.append_assoc, List.getElem?_append_right (by simp; omega), List.getElem?_append_left (by simp; omega)]
      simp [show min a bs.length = a by omega]
    · rw [if_neg h2, List.getElem?_append_right (by simp; omega), List.getElem?_drop]
      congr 1
      simp [show min a bs.length = a by omega]; omega
theorem lay_get (bs xs : List Int) (a k : Nat) (h : a + xs.length ≤ bs.length) : (lay bs a xs).getD k 0 = if a ≤ k ∧ k < a + xs.length then xs.getD (k - a) 0 else bs.getD k 0 := by
  simp only [List.getD_eq_getElem?_getD]
  rw [lay_get? _ _ _ _ h]
  by_cases h1 : k < a
  · rw [if_pos h1, if_neg (by omega)]
  · by_cases h2 : k < a + xs.length
    · rw [if_neg h1, if_pos h2, if_pos (by omega)]
    · rw [if_neg h1, if_neg h2, if_neg (by omega)]
theorem lay_set {α : Type} (bs xs : List α) (a : Nat) (x : α) (h : a + xs.length < bs.length) : (lay bs a xs).set (a + xs.length) x = lay bs a (xs ++ [x]) := by
  have h2 : a + (xs ++ [x]).length ≤ bs.length := by simp; omega
  apply List.ext_getElem?
  intro i
  rw [List.getElem?_set, lay_get? _ _ _ _ h2, lay_get? _ _ _ _ (by omega), lay_len _ _ _ (by omega)]
  simp only [List.length_append, List.length_cons, List.length_nil]
  by_cases h3 : a + xs.length = i
  · subst h3
    rw [if_pos rfl, if_pos h, if_neg (by omega), if_pos (by omega), List.getElem?_append_right (by omega)]
    simp
  · rw [if_neg h3]
    by_cases h4 : i < a
    · rw [if_pos h4, if_pos h4]
    · rw [if_neg h4, if_neg h4]
      by_cases h5 : i < a + xs.length
      · rw [if_pos h5, if_pos (by omega), List.getElem?_append_left (by omega)]
      · rw [if_neg h5, if_neg (by omega)]
theorem undrew {a w : World} (h : Below a.drew.heap.size a.drew w) : Below a.heap.size a w := ⟨h.os, h.tape, h.output, h.size, h.block⟩
/-- A block that is known whole. -/
def Blk (w : World) (b : Nat) (cs : Array Value) (T : TypeId) : Prop := w.heap[b]? = some (.cells cs T (0, 0))
section
variable {w w' : World} {b : Nat} {cs : Array Value} {T : TypeId}
theorem Blk.lt (h : Blk w b cs T) : b < w.heap.size := (Array.getElem?_eq_some_iff.1 h).1
theorem Blk.cell (h : Blk w b cs T) {o : Nat} {v : Value} (ho : cs[o]? = some v) : w.cell? ⟨b, o, none⟩ = some v := by
  unfold Blk at h
  simp [World.cell?, h, ho]
theorem Blk.free (h : Blk w b cs T) (o : Nat) : w.frozen? ⟨b, o, none⟩ = false := by
  unfold Blk at h
  simp [World.frozen?, h]
theorem Blk.kept (h : Blk w b cs T) {F : List Nat} (k : Kept F w w') (hb : b ∉ F) : Blk w' b cs T := (k.block b h.lt hb).trans h
theorem Blk.below (h : Blk w b cs T) (k : Below w.heap.size w w') : Blk w' b cs T := (k.block b h.lt).trans h
theorem Blk.drew (h : Blk w b cs T) : Blk w.drew b cs T := h
theorem Blk.drewN (h : Blk w b cs T) (n : Nat) : Blk (w.drewN n) b cs T := h
theorem Blk.alloc (h : Blk w b cs T) (o : Obj) : Blk (w.alloc o) b cs T := (Below.heap_alloc _ _ _ h.lt).trans h
theorem Blk.new (w : World) (cs : Array Value) (T : TypeId) : Blk (w.alloc (.cells cs T)) w.heap.size cs T := heap_alloc_new w _
theorem Blk.other (h : Blk w b cs T) {a : Addr} (ha : b ≠ a.block) (v : Value) : Blk (w.setCell a v) b cs T := (Below.heap_setCell _ _ _ _ ha).trans h
theorem Blk.set (h : Blk w b cs T) (o : Nat) (v : Value) : Blk (w.setCell ⟨b, o, none⟩ v) b (cs.setIfInBounds o v) T := by
  unfold Blk at h ⊢
  simp [World.setCell, Array.getElem?_modify, h]
end
/-- A row of one-cell elements in a block of the call's own: the slice's value, and what it holds. -/
def Row (w : World) (e : TypeId) (g c : Nat) (vs : List Value) : Prop := w.ownsRow 0 e 1 (.slice (some ⟨g, 0, none⟩) vs.length c) vs.length vs
section
variable {w w' : World} {e : TypeId} {g c : Nat} {vs : List Value}
theorem Row.lt (h : Row w e g c vs) : g < w.heap.size := (World.ownsRow.lt h g rfl).2
theorem Row.cap (h : Row w e g c vs) : vs.length ≤ c ∧ c ≤ maxLen := by
  rcases h.2 with ⟨h1, _⟩ | ⟨g', cap, cur, hv, _, _, h1, h2, _⟩
  · cases h1
  · cases hv; exact ⟨h1, h2⟩
theorem Row.cell (h : Row w e g c vs) {k : Nat} (hk : k < vs.length) : w.cell? ⟨g, k, none⟩ = vs[k]? := World.ownsRow.cellAt h k (by omega)
theorem Row.free (h : Row w e g c vs) (k : Nat) : w.frozen? ⟨g, k, none⟩ = false := World.ownsRow.frozenAt h k
theorem Row.block (h : Row w e g c vs) (hb : w'.heap[g]? = w.heap[g]?) : Row w' e g c vs := by
  obtain ⟨h1, h2⟩ := h
  refine ⟨h1, ?_⟩
  rcases h2 with ⟨h2, _⟩ | ⟨g', cap, cur, hv, hg, hh, r⟩
  · cases h2
  · cases hv
    exact .inr ⟨g, c, cur, rfl, hg, hb.trans hh, r⟩
theorem Row.kept (h : Row w e g c vs) {F : List Nat} (k : Kept F w w') (hb : g ∉ F) : Row w' e g c vs := h.block (k.block g h.lt hb)
theorem Row.below (h : Row w e g c vs) (k : Below w.heap.size w w') : Row w' e g c vs := h.block (k.block g h.lt)
theorem Row.drew (h : Row w e g c vs) : Row w.drew e g c vs := h
theorem Row.drewN (h : Row w e g c vs) (n : Nat) : Row (w.drewN n) e g c vs := h
theorem Row.alloc (h : Row w e g c vs) (o : Obj) : Row (w.alloc o) e g c vs := h.block (Below.heap_alloc _ _ _ h.lt)
theorem Row.other (h : Row w e g c vs) {a : Addr} (ha : g ≠ a.block) (v : Value) : Row (w.setCell a v) e g c vs := h.block (Below.heap_setCell _ _ _ _ ha)
theorem Row.store (h : Row w e g c vs) (k : Nat) (u : Value) : Row (w.setCell ⟨g, k, none⟩ u) e g c (vs.set k u) := by
  have := World.ownsRow.stored h k u
  unfold Row
  rw [List.length_set]; exact this.1
theorem Row.lit (w : World) (vs : List Value) (e : TypeId) (h : vs.length ≤ maxLen) : Row (w.alloc (.cells vs.toArray e)) e w.heap.size vs.length vs := by
  have := World.ownsRow_lit (base := 0) (e := e) (size := 1) w vs.toArray vs.length (Nat.zero_le _) h (by simp)
  simpa [Row] using this
theorem Row.ints {q : IntKind} {xs : List Int} (h : Row w e g c (xs.map (.int q))) : Ints w q (some ⟨g, 0, none⟩) xs := fun k hk => by
  refine ⟨g, 0, rfl, h.lt, ?_⟩
  rw [Nat.zero_add, h.cell (by simpa using hk)]
  simp [List.getD_eq_getElem?_getD, hk]
/-- What a slice of the call's own that is not nil is. -/
theorem Row.of_own {base n : Nat} {v : Value} (h : w.ownsRow base e 1 v n vs) (hv : v ≠ .slice none 0 0) : ∃ g c, v = .slice (some ⟨g, 0, none⟩) n c ∧ n = vs.length ∧ Row w e g c vs ∧ base ≤ g := by
  have h1 := h.1
  rw [Nat.mul_one] at h1
  subst h1
  rcases h.2 with ⟨h2, _⟩ | ⟨g', cap, cur, hv', hg, hh, r⟩
  · exact absurd h2 hv
  · exact ⟨g', cap, hv', rfl, ⟨h.1, .inr ⟨g', cap, cur, rfl, Nat.zero_le _, hh, r⟩⟩, hg⟩
end
end Go.Proofs.Ytloflnachpjlgaa.Aid
