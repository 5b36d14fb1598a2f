/- append of all elements of a slice as an equation, and the parts of a slice of numbers (lines of SpaG, for any seat). Nothing of the program stands here. -/
import Derived.Test.YtknieebmcpgppaaDoorAidRun
set_option linter.unusedSimpArgs false
namespace Go.Proofs.YtknieebmcpgppaaDoor.Aid
open Go.RowKit
/-- append of all elements of a slice of numbers to a slice of the call's own, as a run. -/
theorem append_own_run {P : Program} {W : World} (t ty : TypeId) (base : Nat) (e : TypeId) (q : IntKind) (bytes : Nat) (ht : P.underlying t = some (.slice e))
    (hinfo : (P.info? e).map (fun i => (i.zero, i.size, i.bytes)) = some (some (.int q 0), 1, bytes)) (v : Value) (xs : List Int) (hown : Own W base e q v xs) (hv : v ≠ .slice none 0 0) (ys : List Int) (ad : Addr) (c : Nat)
    (hsrc : Ints W q (some ad) ys) (h63 : xs.length + ys.length ≤ 140737488355328) (hl : (xs.length + ys.length) * bytes ≤ 140737488355328) (hbase : base ≤ W.heap.size) :
    ∃ v' w', (Builtin.append_ #[t, t] ty #[v, .slice (some ad) ys.length c]).run P W = .ok v' w' ∧ Own w' base e q v' (xs ++ ys) ∧ Below base W w' ∧ v' ≠ .slice none 0 0 := by
  obtain ⟨i0, hi, hz0, hz1, hz2⟩ := info_parts hinfo
  obtain ⟨v', w', hrun, h1, h2, h3⟩ := run_append_own (P := P) W base t ty e i0 (.int q 0) 1 bytes ht hi hz0 hz1 hz2 rfl (by decide) v xs.length _ hown ad ys.length c (ys.map (Value.int q)) (by simp) (by
    intro j u hj
    have hj' : j < ys.length := by
      have := (List.getElem?_eq_some_iff.1 hj).1
      simpa using this
    obtain ⟨b, o', e', hlt, h1⟩ := hsrc j hj'
    cases e'
    rw [Go.WideShapes.add_plain, h1]
    simp [hj'] at hj
    simp [hj', ← hj]) (by
    intro u hu
    simp at hu
    obtain ⟨y, _, rfl⟩ := hu
    rfl) (by unfold maxLen; omega) hl hbase
  exact ⟨v', w', hrun, by unfold Own; simpa using h1, (Below.refl base W).grown h2 hbase (fun k hk => (hown.base_le k hk).1), fun e => hv (h3.1 e).1⟩
theorem ints_drop {W : World} {q : IntKind} {g : Nat} {xs : List Int} (h : Ints W q (some ⟨g, 0, none⟩) xs) (k : Nat) : Ints W q (some ⟨g, k, none⟩) (xs.drop k) := fun j hj => by
  rw [List.length_drop] at hj
  obtain ⟨b, o, e, h1, h2⟩ := h (k + j) (by omega)
  injection e with e
  injection e with e1 e2 _
  subst e1 e2
  refine ⟨_, _, rfl, h1, ?_⟩
  rw [show xs.drop k = xs.drop k from rfl]
  rw [Nat.zero_add] at h2
  rw [h2]
  simp [List.getD_eq_getElem?_getD]
theorem ints_take {W : World} {q : IntKind} {A : Option Addr} {xs : List Int} (h : Ints W q A xs) (k : Nat) : Ints W q A (xs.take k) := fun j hj => by
  rw [List.length_take] at hj
  obtain ⟨b, o, e, h1, h2⟩ := h j (by omega)
  refine ⟨b, o, e, h1, ?_⟩
  rw [h2]
  simp [List.getD_eq_getElem?_getD, List.getElem?_take, show j < k by omega]
end Go.Proofs.YtknieebmcpgppaaDoor.Aid
