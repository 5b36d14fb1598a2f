/- RemoteOrder: at every input the law returns true, and its arguments read afterwards as they read before. No condition. -/
import Derived.Test.YtchnhmcedmicgaaRows
import Derived.Test.YtchnhmcedmicgaaAidRow
import Derived.Test.YtchnhmcedmicgaaAidOpen
import Derived.Test.YtchnhmcedmicgaaRemK
import Derived.Lib.SmallJoins
namespace Go.Proofs.Ytchnhmcedmicgaa.RemF9
open Go.ChangeShapes Go.WideShapes Go.ChangeAt Go.RowKit Go.Joins Go.Proofs.Ytchnhmcedmicgaa.Aid Go.Proofs.Ytchnhmcedmicgaa.Rem
theorem R_of_wf {x : Int} (h : (Lit.int .u64 x).wf = true) : 0 ≤ x ∧ x < 18446744073709551616 := by
  simp [Lit.wf, IntKind.min, IntKind.max, IntKind.signed, IntKind.bits] at h
  omega
theorem S_of_wf {x : Int} (h : (Lit.int .i64 x).wf = true) : -9223372036854775808 ≤ x ∧ x < 9223372036854775808 := by
  simp [Lit.wf, IntKind.min, IntKind.max, IntKind.signed, IntKind.bits] at h
  omega
set_option maxRecDepth 100000 in
theorem lifted (os : Os) (started : os.Started) (H : Type) (enc : TypeId × Value → H) :
    ReturnsInHanded {} Try.checked os 9 .any (Rows.remoteOrderSpec.pre6 enc Try.prog Try.f9 Rows.remoteOrderRow.domain false) (Rows.remoteOrderSpec.post enc Try.prog Try.f9 false true false false) := by
  refine law_lifted (C := Try.checked) (by kernel_rfl) started (by kernel_rfl) Try.func9
    (ChangeSpec.witness6 (enc := enc) (C := Try.checked) false ⟨#[], #[.int .i64 0, .slice none 0 0], []⟩ 8 (by kernel_rfl) (by kernel_rfl) (by kernel_rfl) (by kernel_rfl))
    (by kernel_rfl) (by kernel_rfl) rfl rfl Try.underlying4 ?_ (by kernel_rfl) ?_
  · intro es hes
    match es, hes with
    | [_, _], _ => rfl
  · intro W base args ds ps hval hA _ _
    rw [Try.params9] at hA hval
    obtain ⟨v0, vs0, d0, ds0, p0, q0, hargs, rfl, rfl, h0, r0⟩ := trodAll_cons hA
    obtain ⟨v1, vs1, d1, ds1, p1, q1, rfl, rfl, rfl, h1, r1⟩ := trodAll_cons r0
    obtain ⟨rfl, rfl, rfl⟩ := trodAll_nil r1
    obtain rfl : args = #[v0, v1] := by cases args; simp_all
    obtain ⟨a0, rfl, rfl, rfl, w0⟩ := open_int Try.underlying3 (hval 0 3 v0 rfl rfl) h0
    obtain ⟨A1, c1, xs1, rfl, hl1, hx1⟩ := open_rcalls (hval 1 80 v1 rfl rfl) h1
    exact order_walk a0 xs1 A1 c1 hx1 hl1 (w := W)
end Go.Proofs.Ytchnhmcedmicgaa.RemF9
namespace Go.Proofs.Ytchnhmcedmicgaa
/-- The law's row. -/
theorem remoteOrder_holds : Rows.RemoteOrderSaid :=
  OpenClaim.holds_of_wide 9 Try.f9 rfl rfl rfl rfl rfl rfl rfl ⟨rfl, rfl, rfl, rfl, rfl⟩ rfl rfl rfl rfl rfl (by kernel_rfl) Try.func9 (by kernel_rfl)
    (of_decide_eq_true (by kernel_rfl)) (by unfold Func.isWrapper; first | (rw [if_pos (by decide +kernel)]; kernel_rfl) | (rw [if_neg (by decide +kernel)]; exact ⟨rfl, rfl⟩))
    (fun os started H enc _ => RemF9.lifted os started H enc)
#print axioms remoteOrder_holds
end Go.Proofs.Ytchnhmcedmicgaa
