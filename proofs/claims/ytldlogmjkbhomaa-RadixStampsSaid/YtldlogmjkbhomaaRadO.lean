/- A row of calls, and an entry, among the arguments: opened. -/
import Derived.Test.YtldlogmjkbhomaaAidFields
import Derived.Test.YtldlogmjkbhomaaRadA
namespace Go.Proofs.Ytldlogmjkbhomaa.Rad
open Go.ChangeShapes Go.WideShapes Go.RowKit Go.Deep Go.Proofs.Ytldlogmjkbhomaa.Aid
structure Cl where
  clr : Bool
  page : Int
  n : Int
  e : En
def cl0 : Cl := ⟨false, 0, 0, ⟨0, 0, 0, 0⟩⟩
structure ClAt (w : World) (b o : Nat) (c : Cl) : Prop where
  lt : b < w.heap.size
  c0 : w.cell? ⟨b, o, none⟩ = some (.bool c.clr)
  c1 : w.cell? ⟨b, o + 1, none⟩ = some (.int .i64 c.page)
  c2 : w.cell? ⟨b, o + 2, none⟩ = some (.int .i64 c.n)
  c3 : w.cell? ⟨b, o + 3, none⟩ = some (.int .i64 c.e.span)
  c4 : w.cell? ⟨b, o + 4, none⟩ = some (.int .i64 c.e.ver)
  c5 : w.cell? ⟨b, o + 5, none⟩ = some (.int .i64 c.e.cls)
  c6 : w.cell? ⟨b, o + 6, none⟩ = some (.int .i64 c.e.sta)
theorem ClAt.below {w w' : World} {b o : Nat} {x : Cl} (h : ClAt w b o x) (k : Below w.heap.size w w') : ClAt w' b o x :=
  ⟨Nat.lt_of_lt_of_le h.lt k.size, (k.cell (p := ⟨b, _, none⟩) h.lt).trans h.c0, (k.cell (p := ⟨b, _, none⟩) h.lt).trans h.c1, (k.cell (p := ⟨b, _, none⟩) h.lt).trans h.c2, (k.cell (p := ⟨b, _, none⟩) h.lt).trans h.c3,
    (k.cell (p := ⟨b, _, none⟩) h.lt).trans h.c4, (k.cell (p := ⟨b, _, none⟩) h.lt).trans h.c5, (k.cell (p := ⟨b, _, none⟩) h.lt).trans h.c6⟩
/-- A number of 64 bits with a sign. -/
def I64 (x : Int) : Prop := -9223372036854775808 ≤ x ∧ x < 9223372036854775808
structure ClOk (c : Cl) : Prop where
  page : I64 c.page
  n : I64 c.n
  e : En64 c.e
def Cls (w : World) (A : Option Addr) (xs : List Cl) : Prop := ∀ k, k < xs.length → ∃ b o, A = some ⟨b, o, none⟩ ∧ ClAt w b (o + k * 7) (xs.getD k cl0) ∧ ClOk (xs.getD k cl0)
theorem Cls.below {w w' : World} {A : Option Addr} {xs : List Cl} (h : Cls w A xs) (k : Below w.heap.size w w') : Cls w' A xs := fun j hj => by
  obtain ⟨b, o, e, ht, ho⟩ := h j hj
  exact ⟨b, o, e, ht.below k, ho⟩
theorem I64_of_wf {x : Int} (h : (Lit.int .i64 x).wf = true) : I64 x := by
  unfold I64
  simp [Lit.wf, IntKind.min, IntKind.max, IntKind.signed, IntKind.bits] at h
  omega
section
variable {H : Type} {enc : TypeId × Value → H} {W : World}
abbrev ET : TypeId := 32
abbrev CT : TypeId := 34
theorem huE : ∃ f0 f1 f2 f3 : Field, Try.prog.underlying ET = some (.struct #[f0, f1, f2, f3]) ∧ f0.type = 3 ∧ f1.type = 3 ∧ f2.type = 3 ∧ f3.type = 3 ∧ oneCellFields Try.prog #[f0, f1, f2, f3] = true :=
  ⟨_, _, _, _, Try.underlying32, rfl, rfl, rfl, rfl, by kernel_rfl⟩
theorem huC : ∃ f0 f1 f2 f3 : Field, Try.prog.underlying CT = some (.struct #[f0, f1, f2, f3]) ∧ f0.type = 4 ∧ f1.type = 3 ∧ f2.type = 3 ∧ f3.type = ET ∧ f0.offset = 0 ∧ f1.offset = 1 ∧ f2.offset = 2 ∧ f3.offset = 3 :=
  ⟨_, _, _, _, Try.underlying34, rfl, rfl, rfl, rfl, rfl, rfl, rfl, rfl⟩
theorem en_of {cs : List Value} {m : Nat} {y : DataW H × List MemPlace} (hl : cs.length = 4) (hy : DataW.trod enc Try.prog W 0 (fun _ => true) true m ET cs = some y) :
    ∃ e : En, cs = encE e ∧ En64 e := by
  obtain ⟨f0, f1, f2, f3, hu, t0, t1, t2, t3, hone⟩ := huE
  have hf := open_fields hu hone (by rw [hl]; exact Nat.le_refl _) hy
  match cs, hl with
  | [k0, k1, k2, k3], _ =>
    obtain ⟨_, _, g0⟩ := hf 0 f0 rfl
    obtain ⟨_, _, g1⟩ := hf 1 f1 rfl
    obtain ⟨_, _, g2⟩ := hf 2 f2 rfl
    obtain ⟨_, _, g3⟩ := hf 3 f3 rfl
    obtain ⟨n0, e0, _, v0⟩ := DataW.trod_int (by rw [t0]; exact Try.underlying3) g0
    obtain ⟨n1, e1, _, v1⟩ := DataW.trod_int (by rw [t1]; exact Try.underlying3) g1
    obtain ⟨n2, e2, _, v2⟩ := DataW.trod_int (by rw [t2]; exact Try.underlying3) g2
    obtain ⟨n3, e3, _, v3⟩ := DataW.trod_int (by rw [t3]; exact Try.underlying3) g3
    simp at e0 e1 e2 e3
    subst e0 e1 e2 e3
    have a0 := I64_of_wf v0
    have a1 := I64_of_wf v1
    have a2 := I64_of_wf v2
    have a3 := I64_of_wf v3
    exact ⟨⟨n0, n1, n2, n3⟩, rfl, ⟨a0.1, a0.2, a1.1, a1.2, a2.1, a2.2, a3.1, a3.2⟩⟩
set_option maxRecDepth 100000 in
theorem open_entry {r : Reach} {b0 : Nat} {v : Value} {d : DataW H} {p : List MemPlace} (hv : Value.okWide Try.prog W r b0 ET v) (h : DataW.Trod enc Try.prog W 0 (fun _ => true) true ET v d p) :
    ∃ e : En, v = .agg (encE e).toArray ∧ En64 e := by
  obtain ⟨f0, f1, f2, f3, hu, _⟩ := huE
  simp only [Value.okWide, hu] at hv
  obtain ⟨cs, rfl, hsz, _⟩ := hv
  obtain ⟨fuel, hf⟩ := h
  have hc : Try.prog.cellsOf ET = 4 := by kernel_rfl
  obtain ⟨e, he, h64⟩ := en_of (cs := cs.toList) (by rw [Array.length_toList, hsz, hc]) hf
  exact ⟨e, by rw [← he], h64⟩
set_option maxRecDepth 100000 in
theorem open_cls {r : Reach} {b0 : Nat} {v : Value} {d : DataW H} {p : List MemPlace} (hv : Value.okWide Try.prog W r b0 22 v) (h : DataW.Trod enc Try.prog W 0 (fun _ => true) true 22 v d p) :
    ∃ (A : Option Addr) (c : Nat) (xs : List Cl), v = .slice A xs.length c ∧ xs.length ≤ maxLen ∧ Cls W A xs := by
  obtain ⟨f0, f1, f2, f3, hu, t0, t1, t2, t3, o0, o1, o2, o3⟩ := huC
  have hc7 : Try.prog.cellsOf CT = 7 := by kernel_rfl
  have hc4 : Try.prog.cellsOf ET = 4 := by kernel_rfl
  have hci : Try.prog.cellsOf 3 = 1 := by kernel_rfl
  have hcb : Try.prog.cellsOf 4 = 1 := by kernel_rfl
  refine open_slice_of cl0 Try.underlying22 hc7 (by decide) hv h (fun w b o x => ClAt w b o x ∧ ClOk x) ?_
  intro b o m cs y hl hy hb hc
  obtain ⟨xs, n, _, _, _, hxl, hh⟩ := DataW.trod_struct hu hy
  have hxs : ∀ i, i < 4 → ∃ z, xs[i]? = some z := fun i hi => ⟨_, List.getElem?_eq_getElem (by rw [hxl]; exact hi)⟩
  match cs, hl with
  | [k0, k1, k2, k3, k4, k5, k6], _ =>
    obtain ⟨z0, hz0⟩ := hxs 0 (by decide)
    obtain ⟨z1, hz1⟩ := hxs 1 (by decide)
    obtain ⟨z2, hz2⟩ := hxs 2 (by decide)
    obtain ⟨z3, hz3⟩ := hxs 3 (by decide)
    have g0 := (hh 0 f0 rfl).trans hz0
    have g1 := (hh 1 f1 rfl).trans hz1
    have g2 := (hh 2 f2 rfl).trans hz2
    have g3 := (hh 3 f3 rfl).trans hz3
    rw [o0, t0, hcb] at g0
    rw [o1, t1, hci] at g1
    rw [o2, t2, hci] at g2
    rw [o3, t3, hc4] at g3
    obtain ⟨q0, e0, _⟩ := DataW.trod_bool Try.underlying4 g0
    obtain ⟨q1, e1, _, v1⟩ := DataW.trod_int Try.underlying3 g1
    obtain ⟨q2, e2, _, v2⟩ := DataW.trod_int Try.underlying3 g2
    obtain ⟨e, e3, h64⟩ := en_of rfl g3
    simp [encE] at e0 e1 e2 e3
    obtain ⟨e30, e31, e32, e33⟩ := e3
    subst e0 e1 e2 e30 e31 e32 e33
    exact ⟨⟨q0, q1, q2, e⟩, ⟨hb, hc 0 _ rfl, hc 1 _ rfl, hc 2 _ rfl, hc 3 _ rfl, hc 4 _ rfl, hc 5 _ rfl, hc 6 _ rfl⟩, ⟨I64_of_wf v1, I64_of_wf v2, h64⟩⟩
end
end Go.Proofs.Ytldlogmjkbhomaa.Rad
