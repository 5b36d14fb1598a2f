/- An array of numbers among the arguments, opened. Nothing of the program stands here. -/
import Derived.Test.YtchnhmcedmicgaaAidFields
import Derived.Test.YtchnhmcedmicgaaAidArr
namespace Go.Proofs.Ytchnhmcedmicgaa.Aid
open Go.ChangeShapes Go.WideShapes Go.RowKit Go.Deep
theorem open_nums {H : Type} {enc : TypeId × Value → H} {P : Program} {W : World} {r : Reach} {b0 n : Nat} {t e : TypeId} {q : IntKind} {v : Value} {d : DataW H} {p : List MemPlace}
    (ht : P.underlying t = some (.array n e)) (he : P.underlying e = some (.int q)) (hC : P.cellsOf e = 1) (hT : P.cellsOf t = n) (hv : Value.okWide P W r b0 t v) (h : DataW.Trod enc P W 0 (fun _ => true) true t v d p) :
    ∃ xs : List Int, v = keL q xs ∧ okL q n xs := by
  simp only [Value.okWide, ht] at hv
  obtain ⟨cs, rfl, hsz, _⟩ := hv
  obtain ⟨fuel, hf⟩ := h
  obtain ⟨xs, m, rfl, hx1, hlen, hn3, hel⟩ := DataW.trod_array ht hf
  rw [hT] at hsz
  have hex : ∀ j, j < n → ∃ x : Int, cs[j]? = some (.int q x) ∧ (Lit.int q x).wf = true := by
    intro j hj
    have h1 := hel j hj
    rw [List.getElem?_eq_getElem (by omega)] at h1
    obtain ⟨x, e1, _, hw⟩ := DataW.trod_int he h1
    rw [hC, Nat.mul_one] at e1
    have e3 := congrArg (fun z => z[0]?) e1
    simp only [List.getElem?_take_of_lt (Nat.zero_lt_one), List.getElem?_drop, Nat.add_zero] at e3
    refine ⟨x, ?_, hw⟩
    rw [← Array.getElem?_toList]
    exact e3
  obtain ⟨G, hG⟩ := choose_lt hex
  refine ⟨(List.range n).map G, ?_, by simp, fun x hx => ?_⟩
  · unfold keL
    congr 1
    apply Array.ext_getElem?
    intro j
    by_cases hj : j < n
    · rw [(hG j hj).1]
      simp [hj]
    · rw [Array.getElem?_eq_none (by omega)]
      simp [hj]
  · obtain ⟨j, hj, rfl⟩ := List.mem_map.1 hx
    exact (hG j (by simpa using hj)).2
end Go.Proofs.Ytchnhmcedmicgaa.Aid
