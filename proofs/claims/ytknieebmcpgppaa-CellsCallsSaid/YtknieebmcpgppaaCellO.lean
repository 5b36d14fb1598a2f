/- CellsCalls' calls opened: what the row's reading says of the slice of calls. -/
import Derived.Test.YtknieebmcpgppaaCellV
import Derived.Test.YtknieebmcpgppaaAidFields
namespace Go.Proofs.Ytknieebmcpgppaa.Cell
open Go.ChangeShapes Go.WideShapes Go.RowKit Go.Deep Go.Proofs.Ytknieebmcpgppaa.Aid
theorem byt_of_wf' {a : List Int} (h : ∀ k, k < a.length → (Lit.int .u8 (a.getD k 0)).wf = true) : Byt a := fun k hk => by
  have := h k hk
  generalize a.getD k 0 = x at this ⊢
  simp [Lit.wf, IntKind.min, IntKind.max, IntKind.signed, IntKind.bits] at this
  omega
theorem open_tells {H : Type} {enc : TypeId × Value → H} {W : World} {r : Reach} {b0 : Nat} {v : Value} {d : DataW H} {p : List MemPlace}
    (hv : Value.okWide Try.prog W r b0 37 v) (h : DataW.Trod enc Try.prog W 0 (fun _ => true) true 37 v d p) :
    ∃ (A : Option Addr) (c : Nat) (xs : List Tell), v = .slice A xs.length c ∧ xs.length ≤ maxLen ∧ Tells W A xs := by
  have hC : Try.prog.cellsOf 42 = 7 := by kernel_rfl
  refine open_slice_of tell0 Try.underlying37 hC (by decide) hv h TellAt ?_
  intro b o m cs y hl hy hb hc
  have hf := open_fields Try.underlying42 (by kernel_rfl) (by rw [hl]; decide) hy
  match cs, hl with
  | [k0, k1, k2, k3, k4, k5, k6], _ =>
    obtain ⟨_, _, h0⟩ := hf 0 _ rfl
    obtain ⟨_, _, h1⟩ := hf 1 _ rfl
    obtain ⟨_, _, h2⟩ := hf 2 _ rfl
    obtain ⟨_, _, h3⟩ := hf 3 _ rfl
    obtain ⟨_, _, h4⟩ := hf 4 _ rfl
    obtain ⟨_, _, h5⟩ := hf 5 _ rfl
    obtain ⟨_, _, h6⟩ := hf 6 _ rfl
    obtain ⟨n0, e0, _, _⟩ := DataW.trod_int Try.underlying3 h0
    obtain ⟨n1, e1, _, _⟩ := DataW.trod_int Try.underlying3 h1
    obtain ⟨n2, e2, _, _⟩ := DataW.trod_int Try.underlying3 h2
    obtain ⟨n3, e3, _, _⟩ := DataW.trod_int Try.underlying3 h3
    obtain ⟨n4, e4, _, _⟩ := DataW.trod_int Try.underlying3 h4
    obtain ⟨n5, e5, _, _⟩ := DataW.trod_int Try.underlying22 h5
    obtain ⟨A, c, xs, e6, hlx, hA, hi, hw⟩ := open_ints_cells Try.underlying30 Try.underlying5 (by kernel_rfl) h6
    simp at e0 e1 e2 e3 e4 e5 e6
    subst e0 e1 e2 e3 e4 e5 e6
    exact ⟨⟨n0, n1, n2, n3, n4, n5, A, xs, c⟩, hb, hc 0 _ rfl, hc 1 _ rfl, hc 2 _ rfl, hc 3 _ rfl, hc 4 _ rfl, hc 5 _ rfl, hc 6 _ rfl, hi, byt_of_wf' hw, hA, hlx⟩
end Go.Proofs.Ytknieebmcpgppaa.Cell
