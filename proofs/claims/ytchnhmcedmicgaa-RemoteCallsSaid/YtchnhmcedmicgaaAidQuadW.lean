/- Slices of records of four numbers, with the numbers' own bounds. Nothing of the program stands here. -/
import Derived.Test.YtchnhmcedmicgaaAidQuad
namespace Go.Proofs.Ytchnhmcedmicgaa.Aid
open Go.ChangeShapes Go.WideShapes Go.RowKit Go.Deep
def QuadsW (w : World) (A : Option Addr) (xs : List Q4) : Prop := ∀ k, k < xs.length → ∃ b o, A = some ⟨b, o, none⟩ ∧ Q4At w b (o + k * 4) (xs.getD k q40) ∧ Q4ok (xs.getD k q40)
theorem QuadsW.below {w w' : World} {A : Option Addr} {xs : List Q4} (h : QuadsW w A xs) (k : Below w.heap.size w w') : QuadsW w' A xs := fun j hj => by
  obtain ⟨b, o, e, ht, ho⟩ := h j hj
  exact ⟨b, o, e, ht.below k, ho⟩
theorem open_quadsW {H : Type} {enc : TypeId × Value → H} {P : Program} {W : World} {r : Reach} {b0 : Nat} {t e : TypeId} {f0 f1 f2 f3 : Field} {v : Value} {d : DataW H} {p : List MemPlace}
    (ht : P.underlying t = some (.slice e)) (he : P.underlying e = some (.struct #[f0, f1, f2, f3])) (hone : oneCellFields P #[f0, f1, f2, f3] = true) (hC : P.cellsOf e = 4)
    (h0 : P.underlying f0.type = some (.int .i64)) (h1 : P.underlying f1.type = some (.int .i64)) (h2 : P.underlying f2.type = some (.int .i64)) (h3 : P.underlying f3.type = some (.int .i64))
    (hv : Value.okWide P W r b0 t v) (h : DataW.Trod enc P W 0 (fun _ => true) true t v d p) :
    ∃ (A : Option Addr) (c : Nat) (xs : List Q4), v = .slice A xs.length c ∧ xs.length ≤ maxLen ∧ QuadsW W A xs := by
  refine open_slice_of q40 ht hC (by decide) hv h (fun w b o x => Q4At w b o x ∧ Q4ok x) ?_
  intro b o m cs y hl hy hb hc
  have hf := open_fields he hone (by rw [hl]; exact Nat.le_refl _) hy
  match cs, hl with
  | [k0, k1, k2, k3], _ =>
    obtain ⟨_, _, g0⟩ := hf 0 _ rfl
    obtain ⟨_, _, g1⟩ := hf 1 _ rfl
    obtain ⟨_, _, g2⟩ := hf 2 _ rfl
    obtain ⟨_, _, g3⟩ := hf 3 _ rfl
    obtain ⟨n0, e0, _, v0⟩ := DataW.trod_int h0 g0
    obtain ⟨n1, e1, _, v1⟩ := DataW.trod_int h1 g1
    obtain ⟨n2, e2, _, v2⟩ := DataW.trod_int h2 g2
    obtain ⟨n3, e3, _, v3⟩ := DataW.trod_int h3 g3
    simp at e0 e1 e2 e3
    subst e0 e1 e2 e3
    exact ⟨⟨n0, n1, n2, n3⟩, ⟨hb, hc 0 _ rfl, hc 1 _ rfl, hc 2 _ rfl, hc 3 _ rfl⟩, v0, v1, v2, v3⟩
end Go.Proofs.Ytchnhmcedmicgaa.Aid
