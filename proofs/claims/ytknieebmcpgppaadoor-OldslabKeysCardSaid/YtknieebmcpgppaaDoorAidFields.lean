/- Arguments with depth opened: a struct's fields one by one, a slice in a field. Nothing of the program stands here. -/
import Derived.Test.YtknieebmcpgppaaDoorAidOpen
namespace Go.Proofs.YtknieebmcpgppaaDoor.Aid
open Go.ChangeShapes Go.WideShapes Go.RowKit Go.Deep
section
variable {H : Type} {enc : TypeId × Value → H} {P : Program} {W : World}
/-- A struct's fields, each of one cell. -/
theorem open_fields {e : TypeId} {fs : Array Field} {cs : List Value} {m : Nat} {y : DataW H × List MemPlace} (he : P.underlying e = some (.struct fs)) (hone : oneCellFields P fs = true) (hl : fs.size ≤ cs.length)
    (hy : DataW.trod enc P W 0 (fun _ => true) true m e cs = some y) : ∀ (i : Nat) (f : Field), fs[i]? = some f → ∃ n x, DataW.trod enc P W 0 (fun _ => true) true n f.type [cs.getD i undef] = some x := by
  intro i f hf
  obtain ⟨xs, n, _, _, _, hxl, hh⟩ := DataW.trod_struct he hy
  obtain ⟨o, k⟩ := hone_of hone i f hf
  have hi : i < fs.size := (Array.getElem?_eq_some_iff.1 hf).1
  have h1 := hh i f hf
  rw [o, k] at h1
  have h2 : (cs.drop i).take 1 = [cs.getD i undef] := by
    rw [List.drop_eq_getElem_cons (show i < cs.length by omega), List.take_succ_cons, List.take_zero, List.getD_eq_getElem?_getD, List.getElem?_eq_getElem (by omega)]
    rfl
  rw [h2] at h1
  have h3 : xs[i]? = some (xs[i]'(by omega)) := List.getElem?_eq_getElem (by omega)
  rw [h3] at h1
  exact ⟨n, _, h1⟩
/-- A slice's elements, each by its cells, of a slice that stands in a cell. -/
theorem open_rows_cells {t e : TypeId} {C m : Nat} {cs : List Value} {y : DataW H × List MemPlace} (ht : P.underlying t = some (.slice e)) (hC : P.cellsOf e = C) (hpos : 0 < C)
    (h : DataW.trod enc P W 0 (fun _ => true) true m t cs = some y) :
    ∃ (A : Option Addr) (len c : Nat) (F : Nat → List Value), cs = [.slice A len c] ∧ len ≤ maxLen ∧ (A = none → c = 0) ∧ (∀ k, k < len → (F k).length = C ∧ ∃ m y, DataW.trod enc P W 0 (fun _ => true) true m e (F k) = some y) ∧
      (∀ k, k < len → ∃ b o, A = some ⟨b, o, none⟩ ∧ b < W.heap.size ∧ ∀ j u, (F k)[j]? = some u → W.cell? ⟨b, o + k * C + j, none⟩ = some u) := by
  rcases open_slice ht h with ⟨hcs, _⟩ | ⟨a, len, cap, m, n, D, Pl, hcs, hb, hl, hm, hmm, _, hi⟩
  · exact ⟨none, 0, 0, fun _ => [], hcs, Nat.zero_le _, fun _ => rfl, fun k hk => by omega, fun k hk => by omega⟩
  · have hlm : len ≤ m := by rw [hmm]; simp; exact hl
    have hex : ∀ k, k < len → ∃ cs', cs'.length = C ∧ (∃ m y, DataW.trod enc P W 0 (fun _ => true) true m e cs' = some y) ∧ ∀ j u, cs'[j]? = some u → W.cell? (a.add (k * C + j)) = some u := by
      intro k hk
      obtain ⟨cs', hc, ht'⟩ := hi k (by omega)
      obtain ⟨_, hcl, hat⟩ := World.cells?_some hc
      rw [hC] at hcl hat
      refine ⟨cs', hcl, ⟨n, _, ht'⟩, fun j u hu => ?_⟩
      have hj : j < C := by
        have := (List.getElem?_eq_some_iff.1 hu).1
        omega
      rw [← Go.Deep.add_add, hat j hj, hu]
    obtain ⟨F, hF⟩ := choose_lt hex
    refine ⟨_, _, _, F, hcs, Nat.le_trans hl hm, (fun h => by cases h), fun k hk => ⟨(hF k hk).1, (hF k hk).2.1⟩, fun k hk => ?_⟩
    have h0 : 0 < len := by omega
    obtain ⟨hl0, _, hc0⟩ := hF 0 h0
    have hu0 : (F 0)[0]? = some ((F 0)[0]'(by omega)) := List.getElem?_eq_getElem (by omega)
    obtain ⟨b, off, spot⟩ := a
    have hspot : spot = none := by
      have := World.cell?_spot (hc0 0 _ hu0)
      simpa [Addr.add] using this
    subst hspot
    have hblk : b < W.heap.size := by
      have := World.block_lt_of_cell? W _ (hc0 0 _ hu0)
      simpa [Addr.add] using this
    refine ⟨b, off, rfl, hblk, fun j u hu => ?_⟩
    have := (hF k hk).2.2 j u hu
    rw [add_plain] at this
    rwa [Nat.add_assoc]
/-- A slice of numbers in a cell. -/
theorem open_ints_cells {t e : TypeId} {q : IntKind} {m : Nat} {cs : List Value} {y : DataW H × List MemPlace} (ht : P.underlying t = some (.slice e)) (he : P.underlying e = some (.int q)) (hC : P.cellsOf e = 1)
    (h : DataW.trod enc P W 0 (fun _ => true) true m t cs = some y) :
    ∃ (A : Option Addr) (c : Nat) (xs : List Int), cs = [.slice A xs.length c] ∧ xs.length ≤ maxLen ∧ (A = none → c = 0) ∧ Ints W q A xs ∧ ∀ k, k < xs.length → (Lit.int q (xs.getD k 0)).wf = true := by
  obtain ⟨A, len, c, F, rfl, hl, hA, hF, hc⟩ := open_rows_cells ht hC (by decide) h
  have hlen : ((List.range len).map fun k => numV ((F k).headD undef)).length = len := by simp
  have key : ∀ k, k < len → F k = [.int q (numV ((F k).headD undef))] ∧ (Lit.int q (numV ((F k).headD undef))).wf = true := by
    intro k hk
    obtain ⟨_, m, y, hy⟩ := hF k hk
    obtain ⟨n, hn, _, hw⟩ := DataW.trod_int he hy
    rw [hn]; exact ⟨rfl, hw⟩
  have get : ∀ k, k < len → ((List.range len).map fun k => numV ((F k).headD undef)).getD k 0 = numV ((F k).headD undef) := by
    intro k hk
    simp [List.getD_eq_getElem?_getD, hk]
  refine ⟨A, c, (List.range len).map fun k => numV ((F k).headD undef), by rw [hlen], by rw [hlen]; exact hl, hA, fun k hk => ?_, fun k hk => ?_⟩
  · rw [hlen] at hk
    obtain ⟨b, o, e, hb, hcell⟩ := hc k hk
    refine ⟨b, o, e, hb, ?_⟩
    rw [get k hk]
    have := hcell 0 (.int q (numV ((F k).headD undef))) (by rw [(key k hk).1]; rfl)
    simpa using this
  · rw [hlen] at hk
    rw [get k hk]; exact (key k hk).2
/-- A slice whose elements read as things of one's own: from one thing for each element. -/
theorem open_slice_of {α : Type} (z : α) {r : Reach} {b0 : Nat} {t e : TypeId} {C : Nat} {v : Value} {d : DataW H} {p : List MemPlace} (ht : P.underlying t = some (.slice e)) (hC : P.cellsOf e = C) (hpos : 0 < C)
    (hv : Value.okWide P W r b0 t v) (h : DataW.Trod enc P W 0 (fun _ => true) true t v d p) (At : World → Nat → Nat → α → Prop)
    (one : ∀ (b o m : Nat) (cs : List Value) (y : DataW H × List MemPlace), cs.length = C → DataW.trod enc P W 0 (fun _ => true) true m e cs = some y → b < W.heap.size → (∀ j u, cs[j]? = some u → W.cell? ⟨b, o + j, none⟩ = some u) → ∃ x, At W b o x) :
    ∃ (A : Option Addr) (c : Nat) (xs : List α), v = .slice A xs.length c ∧ xs.length ≤ maxLen ∧ ∀ k, k < xs.length → ∃ b o, A = some ⟨b, o, none⟩ ∧ At W b (o + k * C) (xs.getD k z) := by
  obtain ⟨A, len, c, F, rfl, hl, hF, hc⟩ := open_rows ht hC hpos hv h
  have hex : ∀ k, k < len → ∃ x, ∃ b o, A = some ⟨b, o, none⟩ ∧ At W b (o + k * C) x := by
    intro k hk
    obtain ⟨hl', m, y, hy⟩ := hF k hk
    obtain ⟨b, o, e, hb, hcell⟩ := hc k hk
    obtain ⟨x, hx⟩ := one b (o + k * C) m (F k) y hl' hy hb hcell
    exact ⟨x, b, o, e, hx⟩
  haveI : Inhabited α := ⟨z⟩
  obtain ⟨G, hG⟩ := choose_lt hex
  refine ⟨A, c, (List.range len).map G, by simp, by simpa using hl, fun k hk => ?_⟩
  simp only [List.length_map, List.length_range] at hk
  obtain ⟨b, o, e, hx⟩ := hG k hk
  refine ⟨b, o, e, ?_⟩
  have : ((List.range len).map G).getD k z = G k := by simp [List.getD_eq_getElem?_getD, hk]
  rw [this]; exact hx
end
end Go.Proofs.YtknieebmcpgppaaDoor.Aid
