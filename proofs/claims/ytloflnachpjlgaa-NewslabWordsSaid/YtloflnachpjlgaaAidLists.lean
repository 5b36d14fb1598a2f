/- Small words on a slice of slices of numbers, each in a block of its own, that grows by one: what it holds, where it lies, append. Nothing of the program stands here. -/
import Derived.Test.YtloflnachpjlgaaAidApp
import Derived.Maps.AppendAt
namespace Go.Proofs.Ytloflnachpjlgaa.Aid
open Go.RowKit
/-- The k-th of the rows: where it lies. -/
def RowIn (w : World) (q : IntKind) (m sb : Nat) (av : List Nat) (hd : Value) (xs : List Int) : Prop :=
  ∃ b c, hd = .slice (some ⟨b, 0, none⟩) m c ∧ b ≠ sb ∧ b ∉ av ∧ b < w.heap.size ∧ xs.length = m ∧ Ints w q (some ⟨b, 0, none⟩) xs
/-- Rows of m numbers in a slice of slices in block sb; none of the blocks of av is touched by it. -/
structure Lists (w : World) (e : TypeId) (q : IntKind) (m sb c : Nat) (av : List Nat) (hist : List (List Int)) : Prop where
  row : ∃ hs, Row w e sb c hs ∧ hs.length = hist.length ∧ ∀ k hd, hs[k]? = some hd → RowIn w q m sb av hd (hist.getD k [])
  out : sb ∉ av
theorem RowIn.kept {w w' : World} {q : IntKind} {m sb : Nat} {av : List Nat} {hd : Value} {xs : List Int} (h : RowIn w q m sb av hd xs) {F : List Nat} (k : Kept F w w') (hF : ∀ x ∈ F, x ∈ av ∨ x = sb) : RowIn w' q m sb av hd xs := by
  obtain ⟨b, c, e, h1, h2, h3, h4, h5⟩ := h
  refine ⟨b, c, e, h1, h2, Nat.lt_of_lt_of_le h3 k.size, h4, fun j hj => ?_⟩
  obtain ⟨b', o', e', hlt, hc⟩ := h5 j hj
  injection e' with e'
  injection e' with e1 e2
  subst e1 e2
  refine ⟨b, 0, rfl, Nat.lt_of_lt_of_le h3 k.size, ?_⟩
  rw [← hc]
  exact World.cell?_of_block (a := ⟨b, _, none⟩) (k.block b h3 (fun hx => by rcases hF b hx with h | h; exact h2 h; exact h1 h))
theorem Lists.kept {w w' : World} {e : TypeId} {q : IntKind} {m sb c : Nat} {av : List Nat} {hist : List (List Int)} (h : Lists w e q m sb c av hist) {F : List Nat} (k : Kept F w w') (hF : ∀ x ∈ F, x ∈ av) : Lists w' e q m sb c av hist := by
  obtain ⟨⟨hs, h1, h2, h3⟩, h4⟩ := h
  exact ⟨⟨hs, h1.kept k (fun hx => h4 (hF _ hx)), h2, fun j hd hj => (h3 j hd hj).kept k (fun x hx => .inl (hF x hx))⟩, h4⟩
theorem Lists.below {w w' : World} {e : TypeId} {q : IntKind} {m sb c : Nat} {av : List Nat} {hist : List (List Int)} (h : Lists w e q m sb c av hist) (k : Below w.heap.size w w') : Lists w' e q m sb c av hist := h.kept (Kept.of_below k []) (by simp)
theorem Lists.len {w : World} {e : TypeId} {q : IntKind} {m sb c : Nat} {av : List Nat} {hist : List (List Int)} (h : Lists w e q m sb c av hist) : hist.length ≤ c ∧ c ≤ maxLen := by
  obtain ⟨⟨hs, h1, h2, _⟩, _⟩ := h
  have := h1.cap
  rw [h2] at this
  exact this
/-- The k-th row: its header in memory, and its numbers. -/
theorem Lists.at {w : World} {e : TypeId} {q : IntKind} {m sb c : Nat} {av : List Nat} {hist : List (List Int)} (h : Lists w e q m sb c av hist) {k : Nat} (hk : k < hist.length) :
    ∃ b c', w.cell? ⟨sb, k, none⟩ = some (.slice (some ⟨b, 0, none⟩) m c') ∧ (hist.getD k []).length = m ∧ Ints w q (some ⟨b, 0, none⟩) (hist.getD k []) := by
  obtain ⟨⟨hs, h1, h2, h3⟩, _⟩ := h
  have hk' : k < hs.length := by omega
  obtain ⟨b, c', e, _, _, _, h5, h6⟩ := h3 k _ (List.getElem?_eq_getElem hk')
  exact ⟨b, c', by rw [h1.cell hk', List.getElem?_eq_getElem hk', e], h5, h6⟩
/-- append of one row to such a slice. -/
theorem append_list {P : Program} {W : World} {ops : Array Oper} {rest : List Oper} {o : Oper} {a : Act} {Q : Exit → Act → World → Prop} (hgd : o.guard = none) (s x : Operand) (t : TypeId)
    (ho : o.op = .call { callee := .builtin .append, args := #[s, x], argTypes := #[t, t] }) (e : TypeId) (q : IntKind) (ht : P.underlying t = some (.slice e))
    (hinfo : (P.info? e).map (fun i => (i.zero, i.size, i.bytes)) = some (some (.slice none 0 0), 1, 24)) {m sb c : Nat} {av : List Nat} {hist : List (List Int)} (hL : Lists W e q m sb c av hist) (hs : a.eval s = .slice (some ⟨sb, 0, none⟩) hist.length c)
    {b c' : Nat} {xs : List Int} (hb : b ≠ sb) (hav : b ∉ av) (hlt : b < W.heap.size) (hlen : xs.length = m) (hxs : Ints W q (some ⟨b, 0, none⟩) xs) (hx : a.eval x = .slice (some ⟨W.heap.size, 0, none⟩) 1 1) (hsm : hist.length ≤ 1000000) (have_ : ∀ y ∈ av, y < W.heap.size)
    (h : ∀ sb' c'' w', Lists w' e q m sb' c'' av (hist ++ [xs]) → Kept [sb] W w' → (sb' = sb ∨ W.heap.size ≤ sb') → wpList P ops Q rest (a.put o.dst (.slice (some ⟨sb', 0, none⟩) (hist.length + 1) c'')) w') :
    wpList P ops Q (o :: rest) a (W.alloc (.cells #[.slice (some ⟨b, 0, none⟩) m c'] e)) := by
  obtain ⟨i0, hi, hz0, hz1, hz2⟩ := info_parts hinfo
  obtain ⟨⟨hds, h1, h2, h3⟩, h4⟩ := hL
  have hown : W.ownsRow 0 e 1 (.slice (some ⟨sb, 0, none⟩) hist.length c) hist.length hds := by
    have := h1
    unfold Row at this
    rw [h2] at this
    exact this
  refine Go.wpList_append_own_at (w := W.alloc (.cells #[.slice (some ⟨b, 0, none⟩) m c'] e)) hgd s x t ho 0 e i0 (.slice none 0 0) 1 24 ht hi hz0 hz1 hz2 rfl (by decide) _ hist.length hds hs (hown.alloc _) ⟨W.heap.size, 0, none⟩ 1 1 [.slice (some ⟨b, 0, none⟩) m c'] hx rfl (cell_one_new _ _ _) (by intro u hu; simp at hu; subst hu; rfl) (by unfold maxLen; omega) (by omega) (Nat.zero_le _) ?_
  intro v' w' g1 g2 g3 g4
  have hk1 : Kept [sb] (W.alloc (.cells #[.slice (some ⟨b, 0, none⟩) m c'] e)) w' := ⟨g2.os, g2.tape, g2.output, g2.size, fun i hi hF => g2.block i hi (by intro e2; injection e2 with e2; exact hF (by simp [e2]))⟩
  have hk : Kept [sb] W w' := ((Kept.refl [sb] W).alloc _).trans hk1
  have hne : v' ≠ .slice none 0 0 := fun e1 => by have := (g3.1 e1).1; cases this
  obtain ⟨g, c2, rfl, hn, hr, _⟩ := Row.of_own g1 hne
  have hloc : g = sb ∨ W.heap.size ≤ g := by
    rcases g4 with g4 | g4
    · left
      simpa [Value.ownBlock] using g4
    · right
      have : g = (W.alloc (.cells #[.slice (some ⟨b, 0, none⟩) m c'] e)).heap.size := by simpa [Value.ownBlock] using g4
      rw [this]; simp
  have hbs : b ≠ g := by rcases hloc with rfl | h; exact hb; omega
  have hl2 : hds.length + 1 = hist.length + 1 := by omega
  refine h g c2 w' ⟨⟨hds ++ [.slice (some ⟨b, 0, none⟩) m c'], hr, by simp [h2], fun k hd hk2 => ?_⟩, ?_⟩ hk hloc
  · by_cases hkl : k < hds.length
    · rw [List.getElem?_append_left hkl] at hk2
      obtain ⟨b1, c1, e1, p1, p2, p3, p4, p5⟩ := (h3 k hd hk2).kept hk (by simp)
      refine ⟨b1, c1, e1, ?_, p2, p3, ?_, ?_⟩
      · obtain ⟨b3, c3, e3, _, _, p6, _, _⟩ := h3 k hd hk2
        rw [e1] at e3
        injection e3 with e3
        injection e3 with e3
        injection e3 with e3
        subst e3
        rcases hloc with rfl | hh
        · exact p1
        · omega
      · rw [List.getD_eq_getElem?_getD, List.getElem?_append_left (by omega), ← List.getD_eq_getElem?_getD]; exact p4
      · rw [List.getD_eq_getElem?_getD, List.getElem?_append_left (by omega), ← List.getD_eq_getElem?_getD]; exact p5
    · have hkk : k = hds.length := by
        have := (List.getElem?_eq_some_iff.1 hk2).1
        simp at this
        omega
      subst hkk
      rw [List.getElem?_append_right (Nat.le_refl _), Nat.sub_self] at hk2
      simp at hk2
      subst hk2
      have hgd2 : (hist ++ [xs]).getD hds.length [] = xs := by rw [h2]; simp [List.getD_eq_getElem?_getD]
      rw [hgd2]
      refine ⟨b, c', rfl, hbs, hav, Nat.lt_of_lt_of_le hlt hk.size, hlen, fun j hj => ?_⟩
      obtain ⟨b', o', e', _, hc⟩ := hxs j hj
      injection e' with e'
      injection e' with e1 e2
      subst e1 e2
      refine ⟨b, 0, rfl, Nat.lt_of_lt_of_le hlt hk.size, ?_⟩
      rw [← hc]
      exact World.cell?_of_block (a := ⟨b, _, none⟩) (hk.block b hlt (by simpa using hb))
  · rcases hloc with rfl | hh
    · exact h4
    · intro hx2
      have := have_ _ hx2
      omega
end Go.Proofs.Ytloflnachpjlgaa.Aid
