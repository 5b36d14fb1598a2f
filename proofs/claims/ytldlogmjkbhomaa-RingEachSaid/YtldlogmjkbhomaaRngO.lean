/- A row of calls among the arguments: opened. -/
import Derived.Test.YtldlogmjkbhomaaAidFields
import Derived.Test.YtldlogmjkbhomaaRngH
namespace Go.Proofs.Ytldlogmjkbhomaa.Rng
open Go.ChangeShapes Go.WideShapes Go.RowKit Go.Deep Go.Proofs.Ytldlogmjkbhomaa.Aid
structure CAt (w : World) (b o : Nat) (c : R3) : Prop where
  lt : b < w.heap.size
  c0 : w.cell? ⟨b, o, none⟩ = some (.int .i64 c.a)
  c1 : w.cell? ⟨b, o + 1, none⟩ = some (.int .i64 c.b)
  c2 : w.cell? ⟨b, o + 2, none⟩ = some (.int .i64 c.c)
theorem CAt.below {w w' : World} {b o : Nat} {x : R3} (h : CAt w b o x) (k : Below w.heap.size w w') : CAt w' b o x :=
  ⟨Nat.lt_of_lt_of_le h.lt k.size, (k.cell (p := ⟨b, _, none⟩) h.lt).trans h.c0, (k.cell (p := ⟨b, _, none⟩) h.lt).trans h.c1, (k.cell (p := ⟨b, _, none⟩) h.lt).trans h.c2⟩
def z3 : R3 := ⟨0, 0, 0⟩
def Cs (w : World) (A : Option Addr) (xs : List R3) : Prop := ∀ k, k < xs.length → ∃ b o, A = some ⟨b, o, none⟩ ∧ CAt w b (o + k * 3) (xs.getD k z3)
theorem Cs.below {w w' : World} {A : Option Addr} {xs : List R3} (h : Cs w A xs) (k : Below w.heap.size w w') : Cs w' A xs := fun j hj => by
  obtain ⟨b, o, e, ht⟩ := h j hj
  exact ⟨b, o, e, ht.below k⟩
section
variable {H : Type} {enc : TypeId × Value → H} {W : World}
theorem huC : ∃ f0 f1 f2 : Field, Try.prog.underlying 65 = some (.struct #[f0, f1, f2]) ∧ f0.type = 3 ∧ f1.type = 3 ∧ f2.type = 3 ∧ oneCellFields Try.prog #[f0, f1, f2] = true :=
  ⟨_, _, _, Try.underlying65, rfl, rfl, rfl, by kernel_rfl⟩
set_option maxRecDepth 100000 in
theorem open_cs {r : Reach} {b0 : Nat} {v : Value} {d : DataW H} {p : List MemPlace} (hv : Value.okWide Try.prog W r b0 55 v) (h : DataW.Trod enc Try.prog W 0 (fun _ => true) true 55 v d p) :
    ∃ (A : Option Addr) (c : Nat) (xs : List R3), v = .slice A xs.length c ∧ xs.length ≤ maxLen ∧ Cs W A xs := by
  obtain ⟨f0, f1, f2, hu, t0, t1, t2, hone⟩ := huC
  have hc3 : Try.prog.cellsOf 65 = 3 := by kernel_rfl
  refine open_slice_of z3 Try.underlying55 hc3 (by decide) hv h (fun w b o x => CAt w b o x) ?_
  intro b o m cs y hl hy hb hc
  have hf := open_fields hu hone (by rw [hl]; exact Nat.le_refl _) hy
  match cs, hl with
  | [k0, k1, k2], _ =>
    obtain ⟨_, _, g0⟩ := hf 0 f0 rfl
    obtain ⟨_, _, g1⟩ := hf 1 f1 rfl
    obtain ⟨_, _, g2⟩ := hf 2 f2 rfl
    obtain ⟨n0, e0, _, _⟩ := DataW.trod_int (by rw [t0]; exact Try.underlying3) g0
    obtain ⟨n1, e1, _, _⟩ := DataW.trod_int (by rw [t1]; exact Try.underlying3) g1
    obtain ⟨n2, e2, _, _⟩ := DataW.trod_int (by rw [t2]; exact Try.underlying3) g2
    simp at e0 e1 e2
    subst e0 e1 e2
    exact ⟨⟨n0, n1, n2⟩, hb, hc 0 _ rfl, hc 1 _ rfl, hc 2 _ rfl⟩
end
end Go.Proofs.Ytldlogmjkbhomaa.Rng
