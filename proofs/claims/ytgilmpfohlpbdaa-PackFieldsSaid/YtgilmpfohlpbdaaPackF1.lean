/- PackFields: at every word, value and field the law returns true, and its arguments read afterwards as they read before. No condition. -/
import Derived.Test.YtgilmpfohlpbdaaRows
import Derived.Test.YtgilmpfohlpbdaaAidRow
import Derived.Test.YtgilmpfohlpbdaaPackW1
import Derived.Lib.SmallJoins
namespace Go.Proofs.Ytgilmpfohlpbdaa.PackF1
open Go.ChangeShapes Go.WideShapes Go.ChangeAt Go.RowKit Go.Joins Go.Proofs.Ytgilmpfohlpbdaa.Aid Go.Proofs.Ytgilmpfohlpbdaa.Pack
theorem R_of_wf {x : Int} (h : (Lit.int .u64 x).wf = true) : R x := by
  simp [Lit.wf, IntKind.min, IntKind.max, IntKind.signed, IntKind.bits] at h
  unfold R; omega
theorem field_cells : Try.prog.cellsOf 81 = 2 := by kernel_rfl
set_option maxRecDepth 100000 in
theorem lifted (os : Os) (started : os.Started) (H : Type) (enc : TypeId × Value → H) :
    ReturnsInHanded {} Try.checked os 9 .any (Rows.packFieldsSpec.pre6 enc Try.prog Try.f9 Rows.packFieldsRow.domain false) (Rows.packFieldsSpec.post enc Try.prog Try.f9 false true false false) := by
  refine law_lifted (C := Try.checked) (by kernel_rfl) started (by kernel_rfl) Try.func9
    (ChangeSpec.witness6 (enc := enc) (C := Try.checked) false ⟨#[], #[.int .u64 0, .int .u64 0, .agg #[.int .i64 0, .int .i64 0]], []⟩ 8 (by kernel_rfl) (by kernel_rfl) (by kernel_rfl) (by kernel_rfl))
    (by kernel_rfl) (by kernel_rfl) rfl rfl Try.underlying4 ?_ (by kernel_rfl) ?_
  · intro es hes
    match es, hes with
    | [_, _, _], _ => rfl
  · intro W base args ds ps hval hA _ _
    rw [Try.params9] at hA hval
    obtain ⟨v0, vs0, d0, ds0, p0, q0, hargs, rfl, rfl, h0, r0⟩ := trodAll_cons hA
    obtain ⟨v1, vs1, d1, ds1, p1, q1, rfl, rfl, rfl, h1, r1⟩ := trodAll_cons r0
    obtain ⟨v2, vs2, d2, ds2, p2, q2, rfl, rfl, rfl, h2, r2⟩ := trodAll_cons r1
    obtain ⟨rfl, rfl, rfl⟩ := trodAll_nil r2
    obtain rfl : args = #[v0, v1, v2] := by cases args; simp_all
    obtain ⟨a0, rfl, rfl, rfl, w0⟩ := open_int Try.underlying59 (hval 0 59 v0 rfl rfl) h0
    obtain ⟨a1, rfl, rfl, rfl, w1⟩ := open_int Try.underlying59 (hval 1 59 v1 rfl rfl) h1
    obtain ⟨c0, c1, y0, y1, m, rfl, rfl, rfl, hy0, hy1⟩ := open_agg2 Try.underlying81 (by kernel_rfl) field_cells (hval 2 81 v2 rfl rfl) h2
    obtain ⟨s, e0, _, _⟩ := DataW.trod_int Try.underlying3 hy0
    obtain ⟨n, e1, _, _⟩ := DataW.trod_int Try.underlying3 hy1
    simp at e0 e1
    subst e0 e1
    exact fields_walk a0 a1 s n (R_of_wf w0) (R_of_wf w1) W
end Go.Proofs.Ytgilmpfohlpbdaa.PackF1
namespace Go.Proofs.Ytgilmpfohlpbdaa
/-- The law's row. -/
theorem packFields_holds : Rows.PackFieldsSaid :=
  OpenClaim.holds_of_wide 9 Try.f9 rfl rfl rfl rfl rfl rfl rfl ⟨rfl, rfl, rfl, rfl, rfl⟩ rfl rfl rfl rfl rfl (by kernel_rfl) Try.func9 (by kernel_rfl)
    (of_decide_eq_true (by kernel_rfl)) (by unfold Func.isWrapper; first | (rw [if_pos (by decide +kernel)]; kernel_rfl) | (rw [if_neg (by decide +kernel)]; exact ⟨rfl, rfl⟩))
    (fun os started H enc _ => PackF1.lifted os started H enc)
#print axioms packFields_holds
end Go.Proofs.Ytgilmpfohlpbdaa
