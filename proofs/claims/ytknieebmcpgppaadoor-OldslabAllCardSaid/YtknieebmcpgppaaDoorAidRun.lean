/- Appends of numbers and of rows as runs, for regions that draw their order. Nothing of the program stands here. -/
import Derived.Test.YtknieebmcpgppaaDoorAidLists
namespace Go.Proofs.YtknieebmcpgppaaDoor.Aid
open Go.RowKit
/-- append of one row to such a slice, as a run. -/
theorem append_list_run {P : Program} {W : World} (t ty : TypeId) (e : TypeId) (q : IntKind) (ht : P.underlying t = some (.slice e))
    (hinfo : (P.info? e).map (fun i => (i.zero, i.size, i.bytes)) = some (some (.slice none 0 0), 1, 24)) {m sb c : Nat} {av : List Nat} {hist : List (List Int)} (hL : Lists W e q m sb c av hist)
    {b c' : Nat} {xs : List Int} (hb : b ≠ sb) (hav : b ∉ av) (hlt : b < W.heap.size) (hlen : xs.length = m) (hxs : Ints W q (some ⟨b, 0, none⟩) xs) (hsm : hist.length ≤ 1000000) (have_ : ∀ y ∈ av, y < W.heap.size) :
    ∃ sb' c'' w', (Builtin.append_ #[t, t] ty #[.slice (some ⟨sb, 0, none⟩) hist.length c, .slice (some ⟨W.heap.size, 0, none⟩) 1 1]).run P (W.alloc (.cells #[.slice (some ⟨b, 0, none⟩) m c'] e)) = .ok (.slice (some ⟨sb', 0, none⟩) (hist.length + 1) c'') w' ∧
      Lists w' e q m sb' c'' av (hist ++ [xs]) ∧ Kept [sb] W w' ∧ (sb' = sb ∨ W.heap.size ≤ sb') := by
  obtain ⟨i0, hi, hz0, hz1, hz2⟩ := info_parts hinfo
  obtain ⟨⟨hds, h1, h2, h3⟩, h4⟩ := hL
  have hown : W.ownsRow 0 e 1 (.slice (some ⟨sb, 0, none⟩) hist.length c) hist.length hds := by
    have := h1
    unfold Row at this
    rw [h2] at this
    exact this
  obtain ⟨v', w', hrun, g1, g2, g3, g4⟩ := run_append_own_at (P := P) (W.alloc (.cells #[.slice (some ⟨b, 0, none⟩) m c'] e)) 0 t ty e i0 (.slice none 0 0) 1 24 ht hi hz0 hz1 hz2 rfl (by decide) _ hist.length hds (hown.alloc _) ⟨W.heap.size, 0, none⟩ 1 1 [.slice (some ⟨b, 0, none⟩) m c'] rfl (cell_one_new _ _ _) (by intro u hu; simp at hu; subst hu; rfl) (by unfold maxLen; omega) (by omega) (Nat.zero_le _)
  have hk1 : Kept [sb] (W.alloc (.cells #[.slice (some ⟨b, 0, none⟩) m c'] e)) w' := ⟨g2.os, g2.tape, g2.output, g2.size, fun i hi hF => g2.block i hi (by intro e2; injection e2 with e2; exact hF (by simp [e2]))⟩
  have hk : Kept [sb] W w' := ((Kept.refl [sb] W).alloc _).trans hk1
  have hne : v' ≠ .slice none 0 0 := fun e1 => by have := (g3.1 e1).1; cases this
  obtain ⟨g, c2, rfl, hn, hr, _⟩ := Row.of_own g1 hne
  have hloc : g = sb ∨ W.heap.size ≤ g := by
    rcases g4 with g4 | g4
    · left
      simpa [Value.ownBlock] using g4
    · right
      have : g = (W.alloc (.cells #[.slice (some ⟨b, 0, none⟩) m c'] e)).heap.size := by simpa [Value.ownBlock] using g4
      rw [this]; simp
  have hbs : b ≠ g := by rcases hloc with rfl | h; exact hb; omega
  have hl2 : hds.length + 1 = hist.length + 1 := by omega
  refine ⟨g, c2, w', hrun, ⟨⟨hds ++ [.slice (some ⟨b, 0, none⟩) m c'], hr, by simp [h2], fun k hd hk2 => ?_⟩, ?_⟩, hk, hloc⟩
  · by_cases hkl : k < hds.length
    · rw [List.getElem?_append_left hkl] at hk2
      obtain ⟨b1, c1, e1, p1, p2, p3, p4, p5⟩ := (h3 k hd hk2).kept hk (by simp)
      refine ⟨b1, c1, e1, ?_, p2, p3, ?_, ?_⟩
      · obtain ⟨b3, c3, e3, _, _, p6, _, _⟩ := h3 k hd hk2
        rw [e1] at e3
        injection e3 with e3
        injection e3 with e3
        injection e3 with e3
        subst e3
        rcases hloc with rfl | hh
        · exact p1
        · omega
      · rw [List.getD_eq_getElem?_getD, List.getElem?_append_left (by omega), ← List.getD_eq_getElem?_getD]; exact p4
      · rw [List.getD_eq_getElem?_getD, List.getElem?_append_left (by omega), ← List.getD_eq_getElem?_getD]; exact p5
    · have hkk : k = hds.length := by
        have := (List.getElem?_eq_some_iff.1 hk2).1
        simp at this
        omega
      subst hkk
      rw [List.getElem?_append_right (Nat.le_refl _), Nat.sub_self] at hk2
      simp at hk2
      subst hk2
      have hgd2 : (hist ++ [xs]).getD hds.length [] = xs := by rw [h2]; simp [List.getD_eq_getElem?_getD]
      rw [hgd2]
      refine ⟨b, c', rfl, hbs, hav, Nat.lt_of_lt_of_le hlt hk.size, hlen, fun j hj => ?_⟩
      obtain ⟨b', o', e', _, hc⟩ := hxs j hj
      injection e' with e'
      injection e' with e1 e2
      subst e1 e2
      refine ⟨b, 0, rfl, Nat.lt_of_lt_of_le hlt hk.size, ?_⟩
      rw [← hc]
      exact World.cell?_of_block (a := ⟨b, _, none⟩) (hk.block b hlt (by simpa using hb))
  · rcases hloc with rfl | hh
    · exact h4
    · intro hx2
      have := have_ _ hx2
      omega

/-- append of all elements of a slice of numbers to an empty slice of the call's own, as a run: a new row. -/
theorem append_all_run {P : Program} {W : World} (t ty : TypeId) (base : Nat) (e : TypeId) (q : IntKind) (bytes : Nat) (ht : P.underlying t = some (.slice e))
    (hinfo : (P.info? e).map (fun i => (i.zero, i.size, i.bytes)) = some (some (.int q 0), 1, bytes)) (gz cz : Nat) (hown : Own W base e q (.slice (some ⟨gz, 0, none⟩) 0 cz) []) (ys : List Int) (ad : Addr) (c : Nat)
    (hsrc : Ints W q (some ad) ys) (h63 : ys.length ≤ 140737488355328) (hl : ys.length * bytes ≤ 140737488355328) (hbase : base ≤ W.heap.size) :
    ∃ g c' w', (Builtin.append_ #[t, t] ty #[.slice (some ⟨gz, 0, none⟩) 0 cz, .slice (some ad) ys.length c]).run P W = .ok (.slice (some ⟨g, 0, none⟩) ys.length c') w' ∧ Row w' e g c' (ys.map (Value.int q)) ∧ base ≤ g ∧ Below base W w' := by
  obtain ⟨i0, hi, hz0, hz1, hz2⟩ := info_parts hinfo
  obtain ⟨v', w', hrun, h1, h2, h3⟩ := run_append_own (P := P) W base t ty e i0 (.int q 0) 1 bytes ht hi hz0 hz1 hz2 rfl (by decide) _ 0 [] hown ad ys.length c (ys.map (Value.int q)) (by simp) (by
    intro j u hj
    have hj' : j < ys.length := by
      have := (List.getElem?_eq_some_iff.1 hj).1
      simpa using this
    obtain ⟨b, o', e', hlt, h1⟩ := hsrc j hj'
    cases e'
    rw [Go.WideShapes.add_plain, h1]
    simp [hj'] at hj
    simp [hj', ← hj]) (by
    intro u hu
    simp at hu
    obtain ⟨y, _, rfl⟩ := hu
    rfl) (by unfold maxLen; omega) (by rw [Nat.zero_add]; exact hl) hbase
  rw [List.nil_append, Nat.zero_add] at h1
  have hne : v' ≠ .slice none 0 0 := fun e => by have := (h3.1 e).1; cases this
  obtain ⟨g, c2, rfl, hn, hr, hg⟩ := Row.of_own h1 hne
  exact ⟨g, c2, w', hrun, hr, hg, (Below.refl base W).grown h2 hbase (fun k hk => (hown.base_le k hk).1)⟩
end Go.Proofs.YtknieebmcpgppaaDoor.Aid
