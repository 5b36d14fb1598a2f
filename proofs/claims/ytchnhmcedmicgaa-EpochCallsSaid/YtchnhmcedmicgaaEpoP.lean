/- Plain words on epochs: rows of what each worker has seen, a call's answer and what it leaves. No program stands here. -/
import Derived.Test.YtchnhmcedmicgaaAidArr
namespace Go.Proofs.Ytchnhmcedmicgaa.Epo
/-- A row as the program keeps it: sixty-four numbers. -/
def pad (r : List Int) : List Int := r ++ List.replicate (64 - r.length) 0
theorem pad_len (r : List Int) (h : r.length ≤ 64) : (pad r).length = 64 := by simp [pad]; omega
theorem pad_get (r : List Int) (k : Nat) (h : k < r.length) : (pad r).getD k 0 = r.getD k 0 := by
  unfold pad
  rw [List.getD_eq_getElem?_getD, List.getElem?_append_left h, ← List.getD_eq_getElem?_getD]
theorem pad_out (r : List Int) (k : Nat) (h : r.length ≤ k) : (pad r).getD k 0 = 0 := by
  unfold pad
  rw [List.getD_eq_getElem?_getD, List.getElem?_append_right h, List.getElem?_replicate]
  split <;> rfl
theorem pad_set (r : List Int) (k : Nat) (x : Int) (h : k < r.length) : (pad r).set k x = pad (r.set k x) := by
  unfold pad
  rw [List.set_append_left _ _ h, List.length_set]
theorem pad_inj (a b : List Int) (h : a.length = b.length) (e : pad a = pad b) : a = b := by
  unfold pad at e
  rw [h] at e
  exact (List.append_inj_left' e (by simp))
theorem mem_pad {r : List Int} {x : Int} (h : x ∈ pad r) : x ∈ r ∨ x = 0 := by
  unfold pad at h
  rcases List.mem_append.1 h with h | h
  · exact .inl h
  · exact .inr (List.mem_replicate.1 h).2
structure ERun where
  now : Int
  row : List Int
  hist : List (List Int)
/-- A row that the program may hold. -/
def OkRow (n : Nat) (r : List Int) : Prop := r.length = n ∧ ∀ x ∈ r, 0 ≤ x ∧ x ≤ 1000000
structure OkE (n : Nat) (s : ERun) : Prop where
  n1 : 1 ≤ n
  n64 : n ≤ 64
  now0 : 0 ≤ s.now
  now1 : s.now ≤ s.hist.length
  below : ∀ x ∈ s.row, 0 ≤ x ∧ x ≤ s.now
  len : s.row.length = n
  last : ∃ hs, s.hist = hs ++ [s.row]
  rows : ∀ r ∈ s.hist, r.length = n ∧ ∀ x ∈ r, 0 ≤ x ∧ x ≤ s.now
def run0 (n : Nat) : ERun := ⟨0, List.replicate n 0, [List.replicate n 0]⟩
theorem run0_ok (n : Nat) (h1 : 1 ≤ n) (h2 : n ≤ 64) : OkE n (run0 n) := by
  have hz : ∀ x ∈ List.replicate n (0 : Int), 0 ≤ x ∧ x ≤ 0 := fun x hx => by rw [(List.mem_replicate.1 hx).2]; exact ⟨Int.le_refl _, Int.le_refl _⟩
  exact ⟨h1, h2, Int.le_refl _, by simp [run0], hz, by simp [run0], ⟨[], rfl⟩, fun r hr => by
    simp [run0] at hr
    subst hr
    exact ⟨by simp, hz⟩⟩
def nextE (s : ERun) : ERun := ⟨s.now + 1, s.row, s.hist ++ [s.row]⟩
/-- An acknowledgement: its answer, and the row that it leaves. -/
def ackE (n : Nat) (s : ERun) (k : Int) : Int × Option (List Int) :=
  if 0 ≤ k ∧ k < n then (if s.row.getD k.toNat 0 = s.now then (15, none) else (0, some (s.row.set k.toNat s.now))) else (11, none)
def stepA (n : Nat) (s : ERun) (k : Int) : ERun := match (ackE n s k).2 with
  | some r => ⟨s.now, r, s.hist ++ [r]⟩
  | none => s
theorem nextE_ok {n : Nat} {s : ERun} (h : OkE n s) : OkE n (nextE s) := by
  refine ⟨h.n1, h.n64, ?_, ?_, fun x hx => ?_, h.len, ⟨s.hist, rfl⟩, fun r hr => ?_⟩
  · have := h.now0; simp [nextE]; omega
  · have := h.now1; simp [nextE]; omega
  · have := h.below x hx; simp [nextE]; omega
  · have key : ∀ r ∈ s.hist, r.length = n ∧ ∀ x ∈ r, 0 ≤ x ∧ x ≤ s.now + 1 := fun r hr => ⟨(h.rows r hr).1, fun x hx => by have := (h.rows r hr).2 x hx; omega⟩
    rcases List.mem_append.1 hr with hr | hr
    · exact key r hr
    · simp at hr
      subst hr
      obtain ⟨hs, e⟩ := h.last
      exact key _ (by rw [e]; simp)
theorem set_mem {r : List Int} {k : Nat} {y x : Int} (h : x ∈ r.set k y) : x ∈ r ∨ x = y := by
  rcases List.mem_or_eq_of_mem_set h with h | h
  · exact .inl h
  · exact .inr h
theorem stepA_ok {n : Nat} {s : ERun} (h : OkE n s) (k : Int) : OkE n (stepA n s k) := by
  unfold stepA ackE
  by_cases hk : 0 ≤ k ∧ k < n
  · rw [if_pos hk]
    by_cases he : s.row.getD k.toNat 0 = s.now
    · rw [if_pos he]; exact h
    · rw [if_neg he]
      have hb : ∀ x ∈ s.row.set k.toNat s.now, 0 ≤ x ∧ x ≤ s.now := fun x hx => by
        rcases set_mem hx with hx | rfl
        · exact h.below x hx
        · exact ⟨h.now0, Int.le_refl _⟩
      refine ⟨h.n1, h.n64, h.now0, ?_, hb, by rw [List.length_set]; exact h.len, ⟨s.hist, rfl⟩, fun r hr => ?_⟩
      · have := h.now1; simp; omega
      · rcases List.mem_append.1 hr with hr | hr
        · exact h.rows r hr
        · simp at hr
          subst hr
          exact ⟨by rw [List.length_set]; exact h.len, hb⟩
  · rw [if_neg hk]; exact h
/-- The rows' own bounds as keys. -/
theorem pad_wf {r : List Int} (hl : r.length ≤ 64) (hb : ∀ x ∈ r, 0 ≤ x ∧ x ≤ 1000000) : Aid.okL .u64 64 (pad r) := by
  refine ⟨pad_len r hl, fun x hx => ?_⟩
  have : 0 ≤ x ∧ x ≤ 1000000 := by
    rcases mem_pad hx with hx | rfl
    · exact hb x hx
    · decide
  simp [Lit.wf, IntKind.min, IntKind.max, IntKind.signed, IntKind.bits]
  omega
theorem OkE.wf {n : Nat} {s : ERun} (h : OkE n s) (hs : s.hist.length ≤ 100000) : Aid.okL .u64 64 (pad s.row) :=
  pad_wf (by rw [h.len]; exact h.n64) fun x hx => by have := h.below x hx; have := h.now1; omega
theorem step_len (n : Nat) (s : ERun) (k : Int) : (stepA n s k).hist.length ≤ s.hist.length + 1 := by
  unfold stepA
  cases (ackE n s k).2 <;> simp
/-- A call of the law's: one below -1 is a new epoch, another one an acknowledgement. -/
def stepE (n : Nat) (s : ERun) (c : Int) : ERun := if c < -1 then nextE s else stepA n s c
theorem stepE_ok {n : Nat} {s : ERun} (h : OkE n s) (c : Int) : OkE n (stepE n s c) := by
  unfold stepE
  split
  · exact nextE_ok h
  · exact stepA_ok h c
theorem stepE_len (n : Nat) (s : ERun) (c : Int) : (stepE n s c).hist.length ≤ s.hist.length + 1 := by
  unfold stepE
  split
  · simp [nextE]
  · exact step_len n s c
end Go.Proofs.Ytchnhmcedmicgaa.Epo
