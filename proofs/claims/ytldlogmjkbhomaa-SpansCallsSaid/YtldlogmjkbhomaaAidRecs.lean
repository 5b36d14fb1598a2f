/- Rows of records: one cell written, appends of whole rows as runs. Nothing of the program stands here. -/
import Derived.Test.YtldlogmjkbhomaaAidRec
namespace Go.Proofs.Ytldlogmjkbhomaa.Aid
open Go.RowKit
section
variable {α : Type} {enc : α → List Value} {z : Nat} {w w' : World} {e : TypeId} {g c : Nat} {xs : List α}
theorem flat_set1 (henc : ∀ x, (enc x).length = z) : ∀ (xs : List α) (k j : Nat) (x y : α) (v : Value), xs[k]? = some x → j < z → enc y = (enc x).set j v → (xs.flatMap enc).set (k * z + j) v = (xs.set k y).flatMap enc
  | [], k, j, x, y, v, h, _, _ => by simp at h
  | u :: xs, 0, j, x, y, v, h, hj, he => by
    simp at h
    subst h
    rw [List.set_cons_zero, List.flatMap_cons, List.flatMap_cons, Nat.zero_mul, Nat.zero_add, List.set_append_left _ _ (by rw [henc]; exact hj), he]
  | u :: xs, k + 1, j, x, y, v, h, hj, he => by
    rw [List.set_cons_succ, List.flatMap_cons, List.flatMap_cons, List.set_append_right _ _ (by rw [henc, Nat.succ_mul]; omega), henc, show (k + 1) * z + j - z = k * z + j by rw [Nat.succ_mul]; omega,
      flat_set1 henc xs k j x y v (by simpa using h) hj he]
/-- One cell of a record written. -/
theorem Recs.putCell (h : Recs enc z w e g c xs) (henc : ∀ x, (enc x).length = z) {k j : Nat} {x y : α} {v : Value} (hk : xs[k]? = some x) (hj : j < z) (he : enc y = (enc x).set j v) : Recs enc z (w.setCell ⟨g, k * z + j, none⟩ v) e g c (xs.set k y) := by
  obtain ⟨cur, h1, h2, h3⟩ := h.blk
  have hkl : k < xs.length := (List.getElem?_eq_some_iff.1 hk).1
  have hle : k * z + j < xs.length * z := by
    have : (k + 1) * z ≤ xs.length * z := Nat.mul_le_mul_right _ hkl
    rw [Nat.succ_mul] at this; omega
  refine ⟨⟨_, h1.set (k * z + j) v, by simp [h2], ?_⟩, by rw [List.length_set]; exact h.cap, h.max⟩
  rw [List.length_set, ← flat_set1 henc xs k j x y v hk hj he, ← h3, Array.toList_setIfInBounds, List.take_set]
/-- append of a whole row to a slice of the call's own, as a run. -/
theorem append_hdr_run {P : Program} {W : World} (t ty : TypeId) (e : TypeId) (z0 : Value) (bytes : Nat) (ht : P.underlying t = some (.slice e)) (hinfo : (P.info? e).map (fun i => (i.zero, i.size, i.bytes)) = some (some z0, z, bytes)) (hz0 : z0.cells.size = z) (hz : 0 < z)
    (henc : ∀ x, (enc x).length = z) (hone : ∀ x, ∀ v ∈ enc x, v.oneCell' = true) {hd : Value} (hH : Hdr enc z W e hd xs) {b cb : Nat} {ys : List α} (hY : Recs enc z W e b cb ys) (hne : hd ≠ .slice none 0 0 ∨ ys ≠ []) (hsm : xs.length + ys.length ≤ 1000000) (hby : bytes ≤ 1000) :
    ∃ g' c' w', (Builtin.append_ #[t, t] ty #[hd, .slice (some ⟨b, 0, none⟩) ys.length cb]).run P W = .ok (.slice (some ⟨g', 0, none⟩) (xs.length + ys.length) c') w' ∧
      Recs enc z w' e g' c' (xs ++ ys) ∧ (∀ i, i < W.heap.size → hd.ownBlock ≠ some i → w'.heap[i]? = W.heap[i]?) ∧ (hd.ownBlock = some g' ∨ W.heap.size ≤ g') ∧ W.heap.size ≤ w'.heap.size ∧ w'.os = W.os ∧ w'.tape = W.tape ∧ w'.output = W.output := by
  obtain ⟨i0, hi, hz1, hz2, hz3⟩ := info_parts hinfo
  obtain ⟨v', w', hrun, g1, g2, g3, g4⟩ := run_append_own_at (P := P) W 0 t ty e i0 z0 z bytes ht hi hz1 hz2 hz3 hz0 hz _ xs.length _ (hH.own henc) ⟨b, 0, none⟩ ys.length cb (ys.flatMap enc) (flat_len henc ys) (fun j u hj => by
    rw [Addr.add_mid, Nat.zero_add]
    obtain ⟨cur, k1, k2, k3⟩ := hY.blk
    rw [← k3] at hj
    rw [List.getElem?_take] at hj
    split at hj
    · exact k1.cell (by simpa using hj)
    · cases hj) (fun u hu => by
      obtain ⟨x, _, hx⟩ := List.mem_flatMap.1 hu
      exact hone x u hx) (by unfold maxLen; omega) (by
      have : (xs.length + ys.length) * bytes ≤ 1000000 * 1000 := Nat.mul_le_mul (by omega) hby
      omega) (Nat.zero_le _)
  rw [← List.flatMap_append] at g1
  have hnn : v' ≠ .slice none 0 0 := fun e1 => by
    obtain ⟨a1, a2⟩ := g3.1 e1
    rcases hne with h | h
    · exact h a1
    · exact h (List.eq_nil_of_length_eq_zero a2)
  obtain ⟨g, c2, rfl, hr, _⟩ := Recs.of_own g1 (by simp) hnn
  refine ⟨g, c2, w', hrun, hr, fun i hi2 hF => g2.block i hi2 (fun h => hF h.symm), ?_, g2.size, g2.os, g2.tape, g2.output⟩
  rcases g4 with g4 | g4
  · left; rw [← g4]; rfl
  · right
    have : g = W.heap.size := by simpa [Value.ownBlock] using g4
    omega
/-- append of nil to a slice of the call's own, as a run. -/
theorem append_nil_run {P : Program} {W : World} (t ty : TypeId) (e : TypeId) (z0 : Value) (bytes : Nat) (ht : P.underlying t = some (.slice e)) (hinfo : (P.info? e).map (fun i => (i.zero, i.size, i.bytes)) = some (some z0, z, bytes)) (henc : ∀ x, (enc x).length = z)
    {hd : Value} (hH : Hdr enc z W e hd xs) : (Builtin.append_ #[t, t] ty #[hd, .slice none 0 0]).run P W = .ok hd W := by
  obtain ⟨i0, hi, _⟩ := info_parts hinfo
  exact run_append_owned_none (P := P) _ 0 t ty e i0 z ht hi hd xs.length _ (hH.own henc)
end
end Go.Proofs.Ytldlogmjkbhomaa.Aid
