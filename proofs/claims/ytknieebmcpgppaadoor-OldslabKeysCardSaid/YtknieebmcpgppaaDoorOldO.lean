/- The arguments of package underpinlaw13's laws: rows of numbers, and rows of calls with a row of numbers each: opened. -/
import Derived.Test.YtknieebmcpgppaaDoorAidFields
import Derived.Test.YtknieebmcpgppaaDoorOldP
namespace Go.Proofs.YtknieebmcpgppaaDoor.Old
open Go.ChangeShapes Go.WideShapes Go.RowKit Go.Deep Go.Proofs.YtknieebmcpgppaaDoor.Aid
def Nums (w : World) (A : Option Addr) (c : Nat) (xs : List Int) : Prop := Ints w .i64 A xs ∧ (A = none → c = 0)
theorem Nums.below {w w' : World} {A : Option Addr} {c : Nat} {xs : List Int} (h : Nums w A c xs) (k : Below w.heap.size w w') : Nums w' A c xs := ⟨h.1.below k, h.2⟩
structure Cl where
  what : Int
  at_ : Int
  l : List Int
def cl0 : Cl := ⟨0, 0, []⟩
structure ClAt (w : World) (b o : Nat) (x : Cl) : Prop where
  lt : b < w.heap.size
  c0 : w.cell? ⟨b, o, none⟩ = some (.int .i64 x.what)
  c1 : w.cell? ⟨b, o + 1, none⟩ = some (.int .i64 x.at_)
  c2 : ∃ A c, w.cell? ⟨b, o + 2, none⟩ = some (.slice A x.l.length c) ∧ Nums w A c x.l ∧ x.l.length ≤ maxLen
theorem ClAt.below {w w' : World} {b o : Nat} {x : Cl} (h : ClAt w b o x) (k : Below w.heap.size w w') : ClAt w' b o x := by
  obtain ⟨A, c, e, hn, hl⟩ := h.c2
  exact ⟨Nat.lt_of_lt_of_le h.lt k.size, (k.cell (p := ⟨b, _, none⟩) h.lt).trans h.c0, (k.cell (p := ⟨b, _, none⟩) h.lt).trans h.c1, A, c, (k.cell (p := ⟨b, _, none⟩) h.lt).trans e, hn.below k, hl⟩
def Cls (w : World) (A : Option Addr) (xs : List Cl) : Prop := ∀ k, k < xs.length → ∃ b o, A = some ⟨b, o, none⟩ ∧ ClAt w b (o + k * 3) (xs.getD k cl0)
theorem Cls.below {w w' : World} {A : Option Addr} {xs : List Cl} (h : Cls w A xs) (k : Below w.heap.size w w') : Cls w' A xs := fun j hj => by
  obtain ⟨b, o, e, ht⟩ := h j hj
  exact ⟨b, o, e, ht.below k⟩
theorem open_nums {H : Type} {enc : TypeId × Value → H} {W : World} {r : Reach} {b0 : Nat} {v : Value} {d : DataW H} {p : List MemPlace}
    (hv : Value.okWide Tryd.prog W r b0 30 v) (h : DataW.Trod enc Tryd.prog W 0 (fun _ => true) true 30 v d p) :
    ∃ (A : Option Addr) (c : Nat) (xs : List Int), v = .slice A xs.length c ∧ xs.length ≤ maxLen ∧ Nums W A c xs := by
  obtain ⟨A0, len0, c0, rfl⟩ := okWide_slice Tryd.underlying30 hv
  obtain ⟨fuel, hf⟩ := h
  obtain ⟨A, c, xs, e, hl, hA, hi, _⟩ := open_ints_cells Tryd.underlying30 Tryd.underlying3 (by kernel_rfl) hf
  have h3 : A0 = A ∧ len0 = xs.length ∧ c0 = c := by simpa [Value.cells] using e
  obtain ⟨rfl, rfl, rfl⟩ := h3
  exact ⟨_, _, xs, rfl, hl, hi, hA⟩
theorem open_olds {H : Type} {enc : TypeId × Value → H} {W : World} {r : Reach} {b0 : Nat} {v : Value} {d : DataW H} {p : List MemPlace}
    (hv : Value.okWide Tryd.prog W r b0 69 v) (h : DataW.Trod enc Tryd.prog W 0 (fun _ => true) true 69 v d p) :
    ∃ (A : Option Addr) (c : Nat) (xs : List Cl), v = .slice A xs.length c ∧ xs.length ≤ maxLen ∧ Cls W A xs := by
  have hC : Tryd.prog.cellsOf 78 = 3 := by kernel_rfl
  refine open_slice_of cl0 Tryd.underlying69 hC (by decide) hv h (fun w b o x => ClAt w b o x) ?_
  intro b o m cs y hl hy hb hc
  have hf := open_fields Tryd.underlying78 (by kernel_rfl) (by rw [hl]; decide) hy
  match cs, hl with
  | [k0, k1, k2], _ =>
    obtain ⟨_, _, h0⟩ := hf 0 _ rfl
    obtain ⟨_, _, h1⟩ := hf 1 _ rfl
    obtain ⟨_, _, h2⟩ := hf 2 _ rfl
    obtain ⟨n0, e0, _, _⟩ := DataW.trod_int Tryd.underlying3 h0
    obtain ⟨n1, e1, _, _⟩ := DataW.trod_int Tryd.underlying3 h1
    obtain ⟨A, c, xs, e2, hlx, hA, hi, hw⟩ := open_ints_cells Tryd.underlying30 Tryd.underlying3 (by kernel_rfl) h2
    simp at e0 e1 e2
    subst e0 e1 e2
    exact ⟨⟨n0, n1, xs⟩, hb, hc 0 _ rfl, hc 1 _ rfl, A, c, hc 2 _ rfl, ⟨hi, hA⟩, hlx⟩
end Go.Proofs.YtknieebmcpgppaaDoor.Old
