/- A row of calls among the arguments of package underpinlaw08's laws: opened. -/
import Derived.Test.YtldlogmjkbhomaaAidFields
import Derived.Test.YtldlogmjkbhomaaSpaA
namespace Go.Proofs.Ytldlogmjkbhomaa.Spa
open Go.ChangeShapes Go.WideShapes Go.RowKit Go.Deep Go.Proofs.Ytldlogmjkbhomaa.Aid
structure Cl where
  g : Bool
  n : Int
  a : Int
def cl0 : Cl := ⟨false, 0, 0⟩
structure ClAt (w : World) (b o : Nat) (c : Cl) : Prop where
  lt : b < w.heap.size
  c0 : w.cell? ⟨b, o, none⟩ = some (.bool c.g)
  c1 : w.cell? ⟨b, o + 1, none⟩ = some (.int .i64 c.n)
  c2 : w.cell? ⟨b, o + 2, none⟩ = some (.int .i64 c.a)
  w1 : (Lit.int .i64 c.n).wf = true
  w2 : (Lit.int .i64 c.a).wf = true
theorem ClAt.below {w w' : World} {b o : Nat} {x : Cl} (h : ClAt w b o x) (k : Below w.heap.size w w') : ClAt w' b o x :=
  ⟨Nat.lt_of_lt_of_le h.lt k.size, (k.cell (p := ⟨b, _, none⟩) h.lt).trans h.c0, (k.cell (p := ⟨b, _, none⟩) h.lt).trans h.c1, (k.cell (p := ⟨b, _, none⟩) h.lt).trans h.c2, h.w1, h.w2⟩
def Cls (w : World) (A : Option Addr) (xs : List Cl) : Prop := ∀ k, k < xs.length → ∃ b o, A = some ⟨b, o, none⟩ ∧ ClAt w b (o + k * 3) (xs.getD k cl0)
theorem Cls.below {w w' : World} {A : Option Addr} {xs : List Cl} (h : Cls w A xs) (k : Below w.heap.size w w') : Cls w' A xs := fun j hj => by
  obtain ⟨b, o, e, ht⟩ := h j hj
  exact ⟨b, o, e, ht.below k⟩
section
variable {H : Type} {enc : TypeId × Value → H} {W : World}
theorem huC : ∃ f0 f1 f2 : Field, Try.prog.underlying 93 = some (.struct #[f0, f1, f2]) ∧ f0.type = 4 ∧ f1.type = 3 ∧ f2.type = 3 ∧ oneCellFields Try.prog #[f0, f1, f2] = true :=
  ⟨_, _, _, Try.underlying93, rfl, rfl, rfl, by kernel_rfl⟩
set_option maxRecDepth 100000 in
theorem open_cls {r : Reach} {b0 : Nat} {v : Value} {d : DataW H} {p : List MemPlace} (hv : Value.okWide Try.prog W r b0 83 v) (h : DataW.Trod enc Try.prog W 0 (fun _ => true) true 83 v d p) :
    ∃ (A : Option Addr) (c : Nat) (xs : List Cl), v = .slice A xs.length c ∧ xs.length ≤ maxLen ∧ Cls W A xs := by
  obtain ⟨f0, f1, f2, hu, t0, t1, t2, hone⟩ := huC
  have hc3 : Try.prog.cellsOf 93 = 3 := by kernel_rfl
  refine open_slice_of cl0 Try.underlying83 hc3 (by decide) hv h (fun w b o x => ClAt w b o x) ?_
  intro b o m cs y hl hy hb hc
  have hf := open_fields hu hone (by rw [hl]; exact Nat.le_refl _) hy
  match cs, hl with
  | [k0, k1, k2], _ =>
    obtain ⟨_, _, g0⟩ := hf 0 f0 rfl
    obtain ⟨_, _, g1⟩ := hf 1 f1 rfl
    obtain ⟨_, _, g2⟩ := hf 2 f2 rfl
    obtain ⟨n0, e0, _⟩ := DataW.trod_bool (by rw [t0]; exact Try.underlying4) g0
    obtain ⟨n1, e1, _, v1⟩ := DataW.trod_int (by rw [t1]; exact Try.underlying3) g1
    obtain ⟨n2, e2, _, v2⟩ := DataW.trod_int (by rw [t2]; exact Try.underlying3) g2
    simp at e0 e1 e2
    subst e0 e1 e2
    exact ⟨⟨n0, n1, n2⟩, hb, hc 0 _ rfl, hc 1 _ rfl, hc 2 _ rfl, v1, v2⟩
end
end Go.Proofs.Ytldlogmjkbhomaa.Spa
