/- Plain words on settling: whoever is behind acknowledges once, in whatever order. No program stands here. -/
import Derived.Test.YtchnhmcedmicgaaEpoC
namespace Go.Proofs.Ytchnhmcedmicgaa.Epo
open Go.RowKit Go.Proofs.Ytchnhmcedmicgaa.Aid
theorem leastTo_le (m : Int) (r : List Int) : ∀ k j, j < k → leastTo m r k ≤ g64 r j
  | k + 1, j, h => by
    rw [leastTo]
    by_cases e : j = k
    · subst e; unfold g64; omega
    · have := leastTo_le m r k j (by omega); omega
theorem leastTo_all (m : Int) (r : List Int) : ∀ k, (∀ j, j < k → g64 r j = m) → leastTo m r k = m
  | 0, _ => rfl
  | k + 1, h => by
    rw [leastTo, leastTo_all m r k fun j hj => h j (by omega)]
    have := h k (by omega)
    unfold g64 at this
    omega
theorem mem_behTo (now : Int) (r : List Int) (x : Int) : ∀ k, x ∈ behTo now r k ↔ ∃ j : Nat, j < k ∧ x = j ∧ g64 r j ≠ now
  | 0 => by simp [behTo]
  | k + 1 => by
    rw [behTo, List.mem_append, mem_behTo now r x k]
    unfold g64
    constructor
    · rintro (⟨j, h1, h2, h3⟩ | h)
      · exact ⟨j, by omega, h2, h3⟩
      · split at h
        · cases h
        · next hne => simp at h; exact ⟨k, by omega, h, hne⟩
    · rintro ⟨j, h1, h2, h3⟩
      by_cases e : j = k
      · subst e; right; rw [if_neg h3]; simp [h2]
      · exact .inl ⟨j, by omega, h2, h3⟩
theorem nodup_behTo (now : Int) (r : List Int) : ∀ k, (behTo now r k).Nodup
  | 0 => List.nodup_nil
  | k + 1 => by
    rw [behTo, List.nodup_append]
    refine ⟨nodup_behTo now r k, by split <;> simp, fun a ha b hb => ?_⟩
    obtain ⟨j, h1, h2, _⟩ := (mem_behTo now r a k).1 ha
    split at hb
    · cases hb
    · simp at hb; omega
theorem behTo_none (now : Int) (r : List Int) (k : Nat) (h : ∀ j, j < k → g64 r j = now) : behTo now r k = [] := by
  rw [List.eq_nil_iff_forall_not_mem]
  intro x hx
  obtain ⟨j, h1, _, h3⟩ := (mem_behTo now r x k).1 hx
  exact h3 (h j h1)
theorem behTo_allLen (now : Int) (r : List Int) : ∀ k, (∀ j, j < k → g64 r j ≠ now) → (behTo now r k).length = k
  | 0, _ => rfl
  | k + 1, h => by
    have := h k (by omega)
    unfold g64 at this
    rw [behTo, List.length_append, behTo_allLen now r k fun j hj => h j (by omega), if_neg this]
    rfl
/-- Those still to acknowledge. -/
structure Todo (n : Nat) (s : ERun) (ts : List Int) : Prop where
  ok : OkE n s
  nodup : ts.Nodup
  mem : ∀ x, x ∈ ts ↔ ∃ j : Nat, j < n ∧ x = j ∧ g64 s.row j ≠ s.now
theorem todo_turned {n : Nat} {s : ERun} (h : OkE n s) (t : Nat) : Todo n s ((behV s).drop t ++ (behV s).take t) := by
  have hp : ((behV s).drop t ++ (behV s).take t).Perm (behV s) := by
    have := List.perm_append_comm (l₁ := (behV s).drop t) (l₂ := (behV s).take t)
    rwa [List.take_append_drop] at this
  refine ⟨h, ?_, fun x => ?_⟩
  · rw [hp.nodup_iff]; exact nodup_behTo _ _ _
  · rw [hp.mem_iff]
    have := mem_behTo s.now s.row x s.row.length
    rw [h.len] at this
    unfold behV
    rw [h.len]
    exact this
theorem OkE.le {n : Nat} {s : ERun} (h : OkE n s) {j : Nat} (hj : j < n) : g64 s.row j ≤ s.now := (h.below _ (by
  unfold g64
  rw [List.getD_eq_getElem?_getD, List.getElem?_eq_getElem (by rw [h.len]; exact hj)]
  simp)).2
theorem Todo.least {n : Nat} {s : ERun} {x : Int} {ts : List Int} (h : Todo n s (x :: ts)) : leastV s ≠ s.now ∧ setV s = false := by
  obtain ⟨j, h1, h2, h3⟩ := (h.mem x).1 (by simp)
  constructor
  · have h4 := leastTo_le (g64 s.row 0) s.row s.row.length j (by rw [h.ok.len]; exact h1)
    have h5 := h.ok.le h1
    unfold leastV
    omega
  · have hm : x ∈ behV s := by
      unfold behV
      rw [mem_behTo, h.ok.len]
      exact ⟨j, h1, h2, h3⟩
    unfold setV
    cases hb : behV s with
    | nil => rw [hb] at hm; cases hm
    | cons a l => rfl
theorem stepA_none {n : Nat} {s : ERun} {k : Int} (h : (ackE n s k).2 = none) : stepA n s k = s := by
  unfold stepA
  rw [h]
/-- What an acknowledgement of one of them does. -/
theorem Todo.step {n : Nat} {s : ERun} {x : Int} {ts : List Int} (h : Todo n s (x :: ts)) :
    (ackE n s x).1 = 0 ∧ Todo n (stepA n s x) ts ∧ (ackE n (stepA n s x) x).1 = 15 ∧ stepA n (stepA n s x) x = stepA n s x ∧ seenV n (stepA n s x).row x = (stepA n s x).now := by
  obtain ⟨j, h1, rfl, h3⟩ := (h.mem x).1 (by simp)
  have h3' : ¬ s.row.getD j 0 = s.now := h3
  have hs : stepA n s j = ⟨s.now, s.row.set j s.now, s.hist ++ [s.row.set j s.now]⟩ := by
    unfold stepA ackE
    rw [if_pos (by omega), Int.toNat_natCast, if_neg h3']
  have hrow : ∀ i, i < n → g64 (s.row.set j s.now) i = if i = j then s.now else g64 s.row i := fun i hi => by
    unfold g64
    simp only [List.getD_eq_getElem?_getD, List.getElem?_set]
    by_cases e : j = i
    · rw [if_pos e, if_pos (by rw [h.ok.len]; omega), if_pos e.symm]; rfl
    · rw [if_neg e, if_neg fun e' => e e'.symm]
  have hb : ackE n (stepA n s j) j = (15, none) := by
    rw [hs]
    unfold ackE
    rw [if_pos (by omega), Int.toNat_natCast]
    have := hrow j h1
    rw [if_pos rfl] at this
    unfold g64 at this
    rw [if_pos this]
  have hnd := List.nodup_cons.1 h.nodup
  refine ⟨by unfold ackE; rw [if_pos (by omega), Int.toNat_natCast, if_neg h3'], ⟨stepA_ok h.ok _, hnd.2, fun y => ?_⟩, by rw [hb], ?_, ?_⟩
  · rw [hs]
    show y ∈ ts ↔ ∃ i : Nat, i < n ∧ y = i ∧ g64 (s.row.set j s.now) i ≠ s.now
    constructor
    · intro hy
      obtain ⟨i, i1, i2, i3⟩ := (h.mem y).1 (List.mem_cons_of_mem _ hy)
      have hne : i ≠ j := fun e => by subst e; subst i2; exact hnd.1 hy
      exact ⟨i, i1, i2, by rw [hrow i i1, if_neg hne]; exact i3⟩
    · rintro ⟨i, i1, i2, i3⟩
      rw [hrow i i1] at i3
      have hne : i ≠ j := fun e => by rw [if_pos e] at i3; exact i3 rfl
      rw [if_neg hne] at i3
      rcases List.mem_cons.1 ((h.mem y).2 ⟨i, i1, i2, i3⟩) with e | e
      · omega
      · exact e
  · exact stepA_none (by rw [hb])
  · rw [hs]
    unfold seenV
    rw [if_pos (by omega), Int.toNat_natCast, hrow j h1, if_pos rfl]
/-- Nobody is behind, until the next epoch. -/
theorem Todo.done {n : Nat} {s : ERun} (h : Todo n s []) : setV s = true ∧ leastV s = s.now ∧ behV s = [] ∧ (behV (nextE s)).length = n ∧ leastV (nextE s) = s.now := by
  have hall : ∀ j, j < n → g64 s.row j = s.now := fun j hj => by
    by_cases e : g64 s.row j = s.now
    · exact e
    · have := (h.mem j).2 ⟨j, hj, rfl, e⟩
      cases this
  have hb : behV s = [] := behTo_none _ _ _ (by rw [h.ok.len]; exact hall)
  have hl : leastV s = s.now := by
    unfold leastV
    rw [hall 0 (by have := h.ok.n1; omega)]
    exact leastTo_all _ _ _ (by rw [h.ok.len]; exact hall)
  refine ⟨by unfold setV; rw [hb]; rfl, hl, hb, ?_, hl⟩
  unfold behV
  rw [show (nextE s).row = s.row from rfl, behTo_allLen, h.ok.len]
  intro j hj
  rw [h.ok.len] at hj
  rw [hall j hj]
  simp only [nextE]
  omega
theorem beh_len {n : Nat} {s : ERun} (h : OkE n s) : (behV s).length ≤ n := by
  have := behTo_len s.now s.row s.row.length
  rw [h.len] at this
  unfold behV
  rw [h.len]
  exact this
end Go.Proofs.Ytchnhmcedmicgaa.Epo
