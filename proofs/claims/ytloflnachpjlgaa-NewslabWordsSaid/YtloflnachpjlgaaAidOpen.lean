/- A law's arguments opened: slices of numbers, and of structs by their cells. Nothing of the program stands here. -/
import Derived.ProofKit
import Derived.OpenShut
import Derived.Deep.Slices
import Derived.Deep.Fields
import Derived.Test.YtloflnachpjlgaaAidMem
namespace Go.Proofs.Ytloflnachpjlgaa.Aid
open Go.ChangeShapes Go.WideShapes Go.RowKit Go.Deep
/-- The number of a value. -/
def numV : Value → Int
  | .int _ n => n
  | _ => 0
/-- The truth of a value. -/
def boolV : Value → Bool
  | .bool b => b
  | _ => false
section
variable {H : Type} {enc : TypeId × Value → H} {P : Program} {W : World}
/-- A slice's elements, each by its cells. -/
theorem open_rows {r : Reach} {b0 : Nat} {t e : TypeId} {C : Nat} {v : Value} {d : DataW H} {p : List MemPlace} (ht : P.underlying t = some (.slice e)) (hC : P.cellsOf e = C) (hpos : 0 < C)
    (hv : Value.okWide P W r b0 t v) (h : DataW.Trod enc P W 0 (fun _ => true) true t v d p) :
    ∃ (A : Option Addr) (len c : Nat) (F : Nat → List Value), v = .slice A len c ∧ len ≤ maxLen ∧ (∀ k, k < len → (F k).length = C ∧ ∃ m y, DataW.trod enc P W 0 (fun _ => true) true m e (F k) = some y) ∧
      (∀ k, k < len → ∃ b o, A = some ⟨b, o, none⟩ ∧ b < W.heap.size ∧ ∀ j u, (F k)[j]? = some u → W.cell? ⟨b, o + k * C + j, none⟩ = some u) := by
  obtain ⟨A0, len0, c0, rfl⟩ := okWide_slice ht hv
  obtain ⟨fuel, hf⟩ := h
  rcases open_slice ht hf with ⟨hcs, _⟩ | ⟨a, len, cap, m, n, D, Pl, hcs, hb, hl, hm, hmm, _, hi⟩
  · have : A0 = none ∧ len0 = 0 ∧ c0 = 0 := by simpa [Value.cells] using hcs
    obtain ⟨rfl, rfl, rfl⟩ := this
    exact ⟨none, 0, 0, fun _ => [], rfl, Nat.zero_le _, fun k hk => by omega, fun k hk => by omega⟩
  · have : A0 = some a ∧ len0 = len ∧ c0 = cap := by simpa [Value.cells] using hcs
    obtain ⟨rfl, rfl, rfl⟩ := this
    have hlm : len0 ≤ m := by rw [hmm]; simp; exact hl
    have hex : ∀ k, k < len0 → ∃ cs', cs'.length = C ∧ (∃ m y, DataW.trod enc P W 0 (fun _ => true) true m e cs' = some y) ∧ ∀ j u, cs'[j]? = some u → W.cell? (a.add (k * C + j)) = some u := by
      intro k hk
      obtain ⟨cs', hc, ht'⟩ := hi k (by omega)
      obtain ⟨_, hcl, hat⟩ := World.cells?_some hc
      rw [hC] at hcl hat
      refine ⟨cs', hcl, ⟨n, _, ht'⟩, fun j u hu => ?_⟩
      have hj : j < C := by
        have := (List.getElem?_eq_some_iff.1 hu).1
        omega
      rw [← Go.Deep.add_add, hat j hj, hu]
    obtain ⟨F, hF⟩ := choose_lt hex
    refine ⟨_, _, _, F, rfl, Nat.le_trans hl hm, fun k hk => ⟨(hF k hk).1, (hF k hk).2.1⟩, fun k hk => ?_⟩
    have h0 : 0 < len0 := by omega
    obtain ⟨hl0, _, hc0⟩ := hF 0 h0
    have hu0 : (F 0)[0]? = some ((F 0)[0]'(by omega)) := List.getElem?_eq_getElem (by omega)
    obtain ⟨b, off, spot⟩ := a
    have hspot : spot = none := by
      have := World.cell?_spot (hc0 0 _ hu0)
      simpa [Addr.add] using this
    subst hspot
    have hblk : b < W.heap.size := by
      have := World.block_lt_of_cell? W _ (hc0 0 _ hu0)
      simpa [Addr.add] using this
    refine ⟨b, off, rfl, hblk, fun j u hu => ?_⟩
    have := (hF k hk).2.2 j u hu
    rw [add_plain] at this
    rwa [Nat.add_assoc]
/-- A slice of numbers. -/
theorem open_Ints {r : Reach} {b0 : Nat} {t e : TypeId} {q : IntKind} {v : Value} {d : DataW H} {p : List MemPlace} (ht : P.underlying t = some (.slice e)) (he : P.underlying e = some (.int q)) (hC : P.cellsOf e = 1)
    (hv : Value.okWide P W r b0 t v) (h : DataW.Trod enc P W 0 (fun _ => true) true t v d p) :
    ∃ (A : Option Addr) (c : Nat) (xs : List Int), v = .slice A xs.length c ∧ xs.length ≤ maxLen ∧ Ints W q A xs ∧ ∀ k, k < xs.length → (Lit.int q (xs.getD k 0)).wf = true := by
  obtain ⟨A, len, c, F, rfl, hl, hF, hc⟩ := open_rows ht hC (by decide) hv h
  have hlen : ((List.range len).map fun k => numV ((F k).headD undef)).length = len := by simp
  have key : ∀ k, k < len → F k = [.int q (numV ((F k).headD undef))] ∧ (Lit.int q (numV ((F k).headD undef))).wf = true := by
    intro k hk
    obtain ⟨_, m, y, hy⟩ := hF k hk
    obtain ⟨n, hn, _, hw⟩ := DataW.trod_int he hy
    rw [hn]; exact ⟨rfl, hw⟩
  have get : ∀ k, k < len → ((List.range len).map fun k => numV ((F k).headD undef)).getD k 0 = numV ((F k).headD undef) := by
    intro k hk
    simp [List.getD_eq_getElem?_getD, hk]
  refine ⟨A, c, (List.range len).map fun k => numV ((F k).headD undef), by rw [hlen], by rw [hlen]; exact hl, fun k hk => ?_, fun k hk => ?_⟩
  · rw [hlen] at hk
    obtain ⟨b, o, e, hb, hcell⟩ := hc k hk
    refine ⟨b, o, e, hb, ?_⟩
    rw [get k hk]
    have := hcell 0 (.int q (numV ((F k).headD undef))) (by rw [(key k hk).1]; rfl)
    simpa using this
  · rw [hlen] at hk
    rw [get k hk]; exact (key k hk).2
/-- A slice of pairs of numbers. -/
theorem open_Pairs {r : Reach} {b0 : Nat} {t e : TypeId} {f0 f1 : Field} {v : Value} {d : DataW H} {p : List MemPlace} (ht : P.underlying t = some (.slice e)) (he : P.underlying e = some (.struct #[f0, f1])) (hone : oneCellFields P #[f0, f1] = true) (hC : P.cellsOf e = 2)
    (h0 : P.underlying f0.type = some (.int .i64)) (h1 : P.underlying f1.type = some (.int .i64))
    (hv : Value.okWide P W r b0 t v) (h : DataW.Trod enc P W 0 (fun _ => true) true t v d p) :
    ∃ (A : Option Addr) (c : Nat) (xs : List (Int × Int)), v = .slice A xs.length c ∧ xs.length ≤ maxLen ∧ Pairs W A xs := by
  obtain ⟨A, len, c, F, rfl, hl, hF, hc⟩ := open_rows ht hC (by decide) hv h
  have hlen : ((List.range len).map fun k => (numV ((F k).getD 0 undef), numV ((F k).getD 1 undef))).length = len := by simp
  have key : ∀ k, k < len → F k = [.int .i64 (numV ((F k).getD 0 undef)), .int .i64 (numV ((F k).getD 1 undef))] := by
    intro k hk
    obtain ⟨hL, m, y, hy⟩ := hF k hk
    obtain ⟨xs, n, _, _, _, _, hf⟩ := DataW.trod_struct he hy
    obtain ⟨o0, k0⟩ := hone_of hone 0 f0 rfl
    obtain ⟨o1, k1⟩ := hone_of hone 1 f1 rfl
    generalize F k = cs at hL hf ⊢
    match cs, hL with
    | [c0, c1], _ =>
      have e0 := hf 0 f0 rfl
      have e1 := hf 1 f1 rfl
      rw [o0, k0] at e0
      rw [o1, k1] at e1
      have g0 : ∃ y0, DataW.trod enc P W 0 (fun _ => true) true n f0.type [c0] = some y0 := by
        cases hx : DataW.trod enc P W 0 (fun _ => true) true n f0.type [c0] with
        | some y0 => exact ⟨y0, rfl⟩
        | none =>
          have : xs[0]? = none := by rw [← e0]; simpa using hx
          rename_i hxl _
          have := List.getElem?_eq_none_iff.1 this
          simp at hxl; omega
      have g1 : ∃ y1, DataW.trod enc P W 0 (fun _ => true) true n f1.type [c1] = some y1 := by
        cases hx : DataW.trod enc P W 0 (fun _ => true) true n f1.type [c1] with
        | some y1 => exact ⟨y1, rfl⟩
        | none =>
          have : xs[1]? = none := by rw [← e1]; simpa using hx
          rename_i hxl _
          have := List.getElem?_eq_none_iff.1 this
          simp at hxl; omega
      obtain ⟨y0, hy0⟩ := g0
      obtain ⟨y1, hy1⟩ := g1
      obtain ⟨n0, hn0, _, _⟩ := DataW.trod_int h0 hy0
      obtain ⟨n1, hn1, _, _⟩ := DataW.trod_int h1 hy1
      simp at hn0 hn1
      subst hn0 hn1
      rfl
  have get : ∀ k, k < len → ((List.range len).map fun k => (numV ((F k).getD 0 undef), numV ((F k).getD 1 undef))).getD k (0, 0) = (numV ((F k).getD 0 undef), numV ((F k).getD 1 undef)) := by
    intro k hk
    simp [List.getD_eq_getElem?_getD, hk]
  refine ⟨A, c, (List.range len).map fun k => (numV ((F k).getD 0 undef), numV ((F k).getD 1 undef)), by rw [hlen], by rw [hlen]; exact hl, fun k hk => ?_⟩
  rw [hlen] at hk
  obtain ⟨b, o, e, hb, hcell⟩ := hc k hk
  refine ⟨b, o, e, hb, ?_, ?_⟩
  · rw [get k hk]
    exact hcell 0 _ (by rw [key k hk]; rfl)
  · rw [get k hk]
    exact hcell 1 _ (by rw [key k hk]; rfl)
end
end Go.Proofs.Ytloflnachpjlgaa.Aid
