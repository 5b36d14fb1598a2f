/- Plain words on all items that lists hold: those told up to a list and a place, how often each is among them. No function of the program is walked here. -/
import Derived.Test.YtldlogmjkbhomaaRngP
namespace Go.Proofs.Ytldlogmjkbhomaa.Rng
/-- The items told when j lists are over, and k items of the next. -/
def doneL (s : RgS) (j k : Nat) : List Nat := (List.range j).flatMap s ++ (s j).take k
theorem doneL_zero (s : RgS) (j : Nat) : doneL s j 0 = (List.range j).flatMap s := by simp [doneL]
theorem doneL_all (s : RgS) (j : Nat) : doneL s j (s j).length = doneL s (j + 1) 0 := by
  rw [doneL_zero, List.range_succ, List.flatMap_append]
  unfold doneL
  rw [List.take_of_length_le (Nat.le_refl _)]
  simp
theorem doneL_succ {s : RgS} {j k x : Nat} (h : (s j)[k]? = some x) : doneL s j (k + 1) = doneL s j k ++ [x] := by
  obtain ⟨hk, rfl⟩ := List.getElem?_eq_some_iff.1 h
  unfold doneL
  rw [List.take_succ_eq_append_getElem hk, List.append_assoc]
theorem doneL_mem {s : RgS} {j k i : Nat} (h : i ∈ doneL s j k) : ∃ l, i ∈ s l := by
  unfold doneL at h
  rcases List.mem_append.1 h with h | h
  · obtain ⟨l, _, h2⟩ := List.mem_flatMap.1 h
    exact ⟨l, h2⟩
  · exact ⟨j, List.mem_of_mem_take h⟩
theorem doneL_nodup {N L : Nat} {s : RgS} (h : OkG N L s) (j k : Nat) : (doneL s j k).Nodup := by
  induction j generalizing k with
  | zero =>
    have : doneL s 0 k = (s 0).take k := by simp [doneL]
    rw [this]
    exact (h.nd 0).sublist (List.take_sublist _ _)
  | succ j ih =>
    have h1 := ih (s j).length
    rw [doneL_all, doneL_zero] at h1
    unfold doneL
    rw [List.nodup_append]
    refine ⟨h1, (h.nd _).sublist (List.take_sublist _ _), fun a ha b hb e => ?_⟩
    subst e
    obtain ⟨l, h2, h3⟩ := List.mem_flatMap.1 ha
    have := h.dj _ _ a h3 (List.mem_of_mem_take hb)
    rw [List.mem_range] at h2
    omega
theorem doneL_new {N L : Nat} {s : RgS} (h : OkG N L s) {j k x : Nat} (hx : (s j)[k]? = some x) : x ∉ doneL s j k := by
  have := doneL_nodup h j (k + 1)
  rw [doneL_succ hx, List.nodup_append] at this
  exact fun hm => this.2.2 x hm x (by simp) rfl
theorem doneL_lt {N L : Nat} {s : RgS} (h : OkG N L s) {j k i : Nat} (hi : i ∈ doneL s j k) : i < N := by
  obtain ⟨l, hl⟩ := doneL_mem hi
  exact h.lt l i hl
/-- How often items are among some. -/
def cntL (N : Nat) (D : List Nat) : List Int := (List.range N).map fun i => ((D.count i : Nat) : Int)
theorem cntL_len (N : Nat) (D : List Nat) : (cntL N D).length = N := by simp [cntL]
theorem cntL_at {N i : Nat} (D : List Nat) (h : i < N) : (cntL N D)[i]? = some ((D.count i : Nat) : Int) := by simp [cntL, h]
theorem cntL_nil (N : Nat) : cntL N [] = List.replicate N 0 := by
  unfold cntL
  simp only [List.count_nil]
  rw [show (fun _ : Nat => ((0 : Nat) : Int)) = Function.const Nat 0 from rfl, List.map_const, List.length_range]
theorem cntL_snoc (N : Nat) (D : List Nat) (x : Nat) (hx : x ∉ D) : cntL N (D ++ [x]) = (cntL N D).set x 1 := by
  refine List.ext_getElem? fun i => ?_
  rw [List.getElem?_set]
  by_cases hi : i < N
  · rw [cntL_at _ hi, cntL_len, List.count_append]
    by_cases e : x = i
    · subst e
      rw [if_pos rfl, if_pos hi, List.count_eq_zero.2 hx]
      simp
    · rw [if_neg e, cntL_at _ hi]
      simp [e]
  · rw [List.getElem?_eq_none (by rw [cntL_len]; omega), cntL_len]
    by_cases e : x = i
    · subst e
      rw [if_pos rfl, if_neg hi]
    · rw [if_neg e, List.getElem?_eq_none (by rw [cntL_len]; omega)]
/-- How many are less than a number. -/
def fewer (D : List Nat) (m : Nat) : Nat := (D.filter fun i => decide (i < m)).length
theorem fewer_zero (D : List Nat) : fewer D 0 = 0 := by simp [fewer]
theorem fewer_succ (D : List Nat) (m : Nat) : fewer D (m + 1) = fewer D m + D.count m := by
  unfold fewer
  induction D with
  | nil => rfl
  | cons a D ih =>
    simp only [List.filter_cons, List.count_cons]
    by_cases h1 : a < m
    · rw [if_pos (by simp; omega), if_pos (by simpa using h1)]
      have : ¬ a = m := by omega
      simp [this, ih]
      omega
    · by_cases h2 : a = m
      · subst h2
        simp [ih]
        omega
      · rw [if_neg (by simp; omega), if_neg (by simpa using h1)]
        simp [h2, ih]
theorem fewer_all {D : List Nat} {N : Nat} (h : ∀ i ∈ D, i < N) : fewer D N = D.length := by
  unfold fewer
  rw [List.filter_eq_self.2 fun i hi => by simpa using h i hi]
theorem fewer_le (D : List Nat) (m : Nat) : fewer D m ≤ D.length := List.length_filter_le _ _
theorem count_le : ∀ {D : List Nat} (_ : D.Nodup) (i : Nat), D.count i ≤ 1
  | [], _, _ => by simp
  | a :: D, h, i => by
    obtain ⟨h1, h2⟩ := List.nodup_cons.1 h
    rw [List.count_cons]
    by_cases e : a = i
    · subst e
      rw [List.count_eq_zero.2 h1]
      simp
    · have := count_le h2 i
      simp [e]
      exact this
theorem fewer_few {D : List Nat} (h : D.Nodup) : ∀ m, fewer D m ≤ m
  | 0 => by rw [fewer_zero]; exact Nat.le_refl _
  | m + 1 => by
    have h1 := fewer_few h m
    have h2 := count_le h m
    rw [fewer_succ]
    omega
theorem doneL_few {N L : Nat} {s : RgS} (h : OkG N L s) (j k : Nat) : (doneL s j k).length ≤ N := by
  rw [← fewer_all fun i hi => doneL_lt (i := i) h hi]
  exact fewer_few (doneL_nodup h j k) N
/-- An item is among all just if it is in a list. -/
theorem count_in {N L : Nat} {s : RgS} (h : OkG N L s) {i : Nat} : (((doneL s L 0).count i : Nat) = 1) ↔ ¬ (lk s L i).a = -1 := by
  rw [doneL_zero]
  have h1 := count_le (show ((List.range L).flatMap s).Nodup by have := doneL_nodup h L 0; rwa [doneL_zero] at this) i
  rcases where_is s i with ⟨l, hl⟩ | hno
  · have hm : i ∈ (List.range L).flatMap s := List.mem_flatMap.2 ⟨l, List.mem_range.2 (h.lL hl), hl⟩
    have := List.count_pos_iff.2 hm
    obtain ⟨A, B, e⟩ := List.append_of_mem hl
    rw [lk_at h e]
    simp only
    constructor
    · intro _ h3
      have : ((l : Nat) : Int) = -1 := h3
      omega
    · intro _; omega
  · have hm : i ∉ (List.range L).flatMap s := fun hx => by
      obtain ⟨l, _, h3⟩ := List.mem_flatMap.1 hx
      exact hno l h3
    rw [List.count_eq_zero.2 hm, lk_none hno]
    simp
end Go.Proofs.Ytldlogmjkbhomaa.Rng
