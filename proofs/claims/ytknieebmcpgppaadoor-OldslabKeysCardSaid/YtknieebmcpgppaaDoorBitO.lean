/- BitsCalls' calls opened: what the row's reading says of the slice of calls. -/
import Derived.Test.YtknieebmcpgppaaDoorBitS
import Derived.Test.YtknieebmcpgppaaDoorAidFields
namespace Go.Proofs.YtknieebmcpgppaaDoor.Bit
open Go.ChangeShapes Go.WideShapes Go.RowKit Go.Deep Go.Proofs.YtknieebmcpgppaaDoor.Aid
theorem open_asks {H : Type} {enc : TypeId × Value → H} {W : World} {r : Reach} {b0 : Nat} {v : Value} {d : DataW H} {p : List MemPlace}
    (hv : Value.okWide Tryd.prog W r b0 22 v) (h : DataW.Trod enc Tryd.prog W 0 (fun _ => true) true 22 v d p) :
    ∃ (A : Option Addr) (c : Nat) (xs : List Ask), v = .slice A xs.length c ∧ xs.length ≤ maxLen ∧ Asks W A xs := by
  have hC : Tryd.prog.cellsOf 86 = 2 := by kernel_rfl
  refine open_slice_of ask0 Tryd.underlying22 hC (by decide) hv h AskAt ?_
  intro b o m cs y hl hy hb hc
  have hf := open_fields Tryd.underlying86 (by kernel_rfl) (by rw [hl]; decide) hy
  match cs, hl with
  | [k0, k1], _ =>
    obtain ⟨_, _, h0⟩ := hf 0 _ rfl
    obtain ⟨_, _, h1⟩ := hf 1 _ rfl
    obtain ⟨n0, e0, _⟩ := DataW.trod_bool Tryd.underlying4 h0
    obtain ⟨n1, e1, _, _⟩ := DataW.trod_int Tryd.underlying3 h1
    simp at e0 e1
    subst e0 e1
    exact ⟨⟨n0, n1⟩, hb, hc 0 _ rfl, hc 1 _ rfl⟩
end Go.Proofs.YtknieebmcpgppaaDoor.Bit
