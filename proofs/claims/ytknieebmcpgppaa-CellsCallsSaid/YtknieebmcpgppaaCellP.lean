/- Where two rows of bytes are unlike: the rows of addresses, in plain Lean, and how such rows lie in memory. No program stands here. -/
import Derived.Test.YtknieebmcpgppaaAidApp
namespace Go.Proofs.Ytknieebmcpgppaa.Cell
open Go.RowKit Go.Proofs.Ytknieebmcpgppaa.Aid
def unl (a b : List Int) (k : Nat) : Bool := decide (a.length ≤ k) || (decide (b.length ≤ k) || !(a.getD k 0 == b.getD k 0))
/-- The last row has one more. -/
def bump (o : List (Int × Int)) : List (Int × Int) := o.dropLast ++ [((o.getLastD (0, 0)).1, (o.getLastD (0, 0)).2 + 1)]
def difTo (a b : List Int) : Nat → List (Int × Int) × Bool
  | 0 => ([], false)
  | k + 1 => (match unl a b k, (difTo a b k).2 with | true, true => bump (difTo a b k).1 | true, false => (difTo a b k).1 ++ [((k : Int), 1)] | false, _ => (difTo a b k).1, unl a b k)
theorem bump_snoc (p : List (Int × Int)) (s n : Int) : bump (p ++ [(s, n)]) = p ++ [(s, n + 1)] := by simp [bump]
theorem dif_shape (a b : List Int) : ∀ k, (difTo a b k).1.length ≤ k ∧ (∀ x ∈ (difTo a b k).1, 0 ≤ x.1 ∧ x.1 < k ∧ 1 ≤ x.2 ∧ x.2 ≤ k) ∧ ((difTo a b k).2 = true → (difTo a b k).1 ≠ [])
  | 0 => ⟨by simp [difTo], by simp [difTo], by simp [difTo]⟩
  | k + 1 => by
    obtain ⟨h1, h2, h3⟩ := dif_shape a b k
    unfold difTo
    generalize difTo a b k = d at h1 h2 h3 ⊢
    obtain ⟨o, l⟩ := d
    simp only at h1 h2 h3 ⊢
    cases unl a b k <;> cases l <;> dsimp only
    · exact ⟨by omega, fun x hx => by have := h2 x hx; omega, by simp⟩
    · exact ⟨by omega, fun x hx => by have := h2 x hx; omega, by simp⟩
    · refine ⟨by simp; omega, fun x hx => ?_, by simp⟩
      simp only [List.mem_append, List.mem_singleton] at hx
      rcases hx with hx | rfl
      · have := h2 x hx; omega
      · simp; omega
    · have hne := h3 rfl
      obtain ⟨p, x, rfl⟩ : ∃ p x, o = p ++ [x] := ⟨o.dropLast, o.getLast hne, (List.dropLast_concat_getLast hne).symm⟩
      obtain ⟨s, n⟩ := x
      rw [bump_snoc]
      have hs := h2 (s, n) (by simp)
      refine ⟨by simp at h1 ⊢; omega, fun x hx => ?_, by simp⟩
      simp only [List.mem_append, List.mem_singleton] at hx
      rcases hx with hx | rfl
      · have := h2 x (by simp [hx]); omega
      · simp at hs ⊢; omega
theorem unl_comm (a b : List Int) (k : Nat) : unl a b k = unl b a k := by
  unfold unl
  rw [show (a.getD k 0 == b.getD k 0) = (b.getD k 0 == a.getD k 0) from Bool.beq_comm]
  cases decide (a.length ≤ k) <;> cases decide (b.length ≤ k) <;> simp
theorem dif_comm (a b : List Int) : ∀ k, difTo a b k = difTo b a k
  | 0 => rfl
  | k + 1 => by unfold difTo; rw [dif_comm a b k, unl_comm]
theorem unl_self (a : List Int) (k : Nat) (h : k < a.length) : unl a a k = false := by
  unfold unl; simp; omega
theorem dif_self (a : List Int) : ∀ k, k ≤ a.length → difTo a a k = ([], false)
  | 0, _ => rfl
  | k + 1, h => by unfold difTo; rw [dif_self a k (by omega), unl_self a k (by omega)]
/-- The last row of such rows in memory: one store turns it. -/
theorem ownR_last {w : World} {base : Nat} {e : TypeId} {v : Value} {p : List (Int × Int)} {s n : Int} (h : OwnR encP 2 w base e v (p ++ [(s, n)])) :
    ∃ g c, v = .slice (some ⟨g, 0, none⟩) (p.length + 1) c ∧ base ≤ g ∧ g < w.heap.size ∧ w.cell? ⟨g, p.length * 2 + 1, none⟩ = some (.int .i64 n) ∧ w.frozen? ⟨g, p.length * 2 + 1, none⟩ = false ∧
      ∀ m : Int, OwnR encP 2 (w.setCell ⟨g, p.length * 2 + 1, none⟩ (.int .i64 m)) base e v (p ++ [(s, m)]) := by
  unfold OwnR at h
  rw [show (p ++ [(s, n)]).length = p.length + 1 by simp] at h
  obtain ⟨g, c, rfl, hg, hlt⟩ := h.form (by omega)
  have hfl : (p.flatMap encP).length = p.length * 2 := flat_len encP_len p
  refine ⟨g, c, rfl, hg, hlt, ?_, World.ownsRow.frozenAt h _, fun m => ?_⟩
  · rw [World.ownsRow.cellAt h _ (by omega), List.flatMap_append, List.getElem?_append_right (by omega), hfl]
    simp [encP]
  · have := (World.ownsRow.stored h (p.length * 2 + 1) (.int .i64 m)).1
    unfold OwnR
    rw [show (p ++ [(s, m)]).length = p.length + 1 by simp]
    have e1 : (List.flatMap encP (p ++ [(s, n)])).set (p.length * 2 + 1) (.int .i64 m) = List.flatMap encP (p ++ [(s, m)]) := by
      rw [List.flatMap_append, List.flatMap_append, List.set_append_right _ _ (by omega), hfl]
      simp [encP]
    rw [← e1]; exact this
end Go.Proofs.Ytknieebmcpgppaa.Cell
