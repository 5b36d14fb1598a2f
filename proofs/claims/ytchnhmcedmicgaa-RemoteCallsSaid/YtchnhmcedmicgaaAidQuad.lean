/- Small words on slices of records of three or four numbers. Nothing of the program stands here. -/
import Derived.Test.YtchnhmcedmicgaaAidFields
namespace Go.Proofs.Ytchnhmcedmicgaa.Aid
open Go.ChangeShapes Go.WideShapes Go.RowKit Go.Deep
structure Q4 where
  a : Int
  b : Int
  c : Int
  d : Int
def q40 : Q4 := ⟨0, 0, 0, 0⟩
structure Q4At (w : World) (b o : Nat) (x : Q4) : Prop where
  lt : b < w.heap.size
  c0 : w.cell? ⟨b, o, none⟩ = some (.int .i64 x.a)
  c1 : w.cell? ⟨b, o + 1, none⟩ = some (.int .i64 x.b)
  c2 : w.cell? ⟨b, o + 2, none⟩ = some (.int .i64 x.c)
  c3 : w.cell? ⟨b, o + 3, none⟩ = some (.int .i64 x.d)
theorem Q4At.below {w w' : World} {b o : Nat} {x : Q4} (h : Q4At w b o x) (k : Below w.heap.size w w') : Q4At w' b o x :=
  ⟨Nat.lt_of_lt_of_le h.lt k.size, (k.cell (p := ⟨b, _, none⟩) h.lt).trans h.c0, (k.cell (p := ⟨b, _, none⟩) h.lt).trans h.c1, (k.cell (p := ⟨b, _, none⟩) h.lt).trans h.c2, (k.cell (p := ⟨b, _, none⟩) h.lt).trans h.c3⟩
def Quads (w : World) (A : Option Addr) (xs : List Q4) : Prop := ∀ k, k < xs.length → ∃ b o, A = some ⟨b, o, none⟩ ∧ Q4At w b (o + k * 4) (xs.getD k q40)
theorem Quads.below {w w' : World} {A : Option Addr} {xs : List Q4} (h : Quads w A xs) (k : Below w.heap.size w w') : Quads w' A xs := fun j hj => by
  obtain ⟨b, o, e, ht⟩ := h j hj
  exact ⟨b, o, e, ht.below k⟩
def Q4ok (x : Q4) : Prop := (Lit.int .i64 x.a).wf = true ∧ (Lit.int .i64 x.b).wf = true ∧ (Lit.int .i64 x.c).wf = true ∧ (Lit.int .i64 x.d).wf = true
theorem open_quads {H : Type} {enc : TypeId × Value → H} {P : Program} {W : World} {r : Reach} {b0 : Nat} {t e : TypeId} {f0 f1 f2 f3 : Field} {v : Value} {d : DataW H} {p : List MemPlace}
    (ht : P.underlying t = some (.slice e)) (he : P.underlying e = some (.struct #[f0, f1, f2, f3])) (hone : oneCellFields P #[f0, f1, f2, f3] = true) (hC : P.cellsOf e = 4)
    (h0 : P.underlying f0.type = some (.int .i64)) (h1 : P.underlying f1.type = some (.int .i64)) (h2 : P.underlying f2.type = some (.int .i64)) (h3 : P.underlying f3.type = some (.int .i64))
    (hv : Value.okWide P W r b0 t v) (h : DataW.Trod enc P W 0 (fun _ => true) true t v d p) :
    ∃ (A : Option Addr) (c : Nat) (xs : List Q4), v = .slice A xs.length c ∧ xs.length ≤ maxLen ∧ Quads W A xs := by
  refine open_slice_of q40 ht hC (by decide) hv h Q4At ?_
  intro b o m cs y hl hy hb hc
  have hf := open_fields he hone (by rw [hl]; exact Nat.le_refl _) hy
  match cs, hl with
  | [k0, k1, k2, k3], _ =>
    obtain ⟨_, _, g0⟩ := hf 0 _ rfl
    obtain ⟨_, _, g1⟩ := hf 1 _ rfl
    obtain ⟨_, _, g2⟩ := hf 2 _ rfl
    obtain ⟨_, _, g3⟩ := hf 3 _ rfl
    obtain ⟨n0, e0, _, _⟩ := DataW.trod_int h0 g0
    obtain ⟨n1, e1, _, _⟩ := DataW.trod_int h1 g1
    obtain ⟨n2, e2, _, _⟩ := DataW.trod_int h2 g2
    obtain ⟨n3, e3, _, _⟩ := DataW.trod_int h3 g3
    simp at e0 e1 e2 e3
    subst e0 e1 e2 e3
    exact ⟨⟨n0, n1, n2, n3⟩, hb, hc 0 _ rfl, hc 1 _ rfl, hc 2 _ rfl, hc 3 _ rfl⟩
end Go.Proofs.Ytchnhmcedmicgaa.Aid
