/- Plain words on ledgers: rows of eight amounts, their sums, a call's answer and what it leaves. No program stands here. -/
import Derived.Test.YtchnhmcedmicgaaAidArr
namespace Go.Proofs.Ytchnhmcedmicgaa.Led
def sumTo (r : List Int) : Nat → Int
  | 0 => 0
  | k + 1 => sumTo r k + r.getD k 0
def Pos (r : List Int) : Prop := ∀ k, 0 ≤ r.getD k 0
theorem sumTo_pos {r : List Int} (h : Pos r) : ∀ k, 0 ≤ sumTo r k
  | 0 => by simp [sumTo]
  | k + 1 => by have := sumTo_pos h k; have := h k; unfold sumTo; omega
theorem sumTo_mono {r : List Int} (h : Pos r) (j : Nat) : ∀ d, sumTo r j ≤ sumTo r (j + d)
  | 0 => by simp
  | d + 1 => by have := sumTo_mono h j d; have := h (j + d); rw [← Nat.add_assoc, sumTo]; omega
theorem sumTo_le {r : List Int} (h : Pos r) {j k : Nat} (hjk : j ≤ k) : sumTo r j ≤ sumTo r k := by
  obtain ⟨d, rfl⟩ : ∃ d, k = j + d := ⟨k - j, by omega⟩
  exact sumTo_mono h j d
theorem get_le {r : List Int} (h : Pos r) {k : Nat} (hk : k < 8) : r.getD k 0 ≤ sumTo r 8 := by
  have h1 := sumTo_le h (show k + 1 ≤ 8 by omega)
  have h2 := sumTo_pos h k
  have h3 : sumTo r (k + 1) = sumTo r k + r.getD k 0 := rfl
  omega
theorem getD_set (r : List Int) (i j : Nat) (x : Int) (hi : i < r.length) : (r.set i x).getD j 0 = if i = j then x else r.getD j 0 := by
  simp only [List.getD_eq_getElem?_getD, List.getElem?_set]
  by_cases h : i = j
  · subst h; simp [hi]
  · simp [h]
theorem sumTo_set (r : List Int) (i : Nat) (x : Int) (hi : i < r.length) : ∀ k, sumTo (r.set i x) k = sumTo r k + (if i < k then x - r.getD i 0 else 0)
  | 0 => by simp [sumTo]
  | k + 1 => by
    rw [sumTo, sumTo, sumTo_set r i x hi k, getD_set r i k x hi]
    by_cases h : i = k
    · subst h; simp; omega
    · by_cases h2 : i < k
      · rw [if_pos h2, if_neg h, if_pos (by omega)]; omega
      · rw [if_neg h2, if_neg h, if_neg (by omega)]; omega
/-- A row that the ledger may hold. -/
structure OkR (cap : Int) (r : List Int) : Prop where
  len : r.length = 8
  pos : Pos r
  le : sumTo r 8 ≤ cap
theorem OkR.wf {cap : Int} {r : List Int} (h : OkR cap r) (hc : cap ≤ 1099511627776) : Aid.okL .i64 8 r := by
  refine ⟨h.len, fun x hx => ?_⟩
  obtain ⟨k, hk, rfl⟩ := List.mem_iff_getElem.1 hx
  have h1 := h.pos k
  have h2 := get_le h.pos (show k < 8 by have := h.len; omega)
  have h3 := h.le
  rw [List.getD_eq_getElem?_getD, List.getElem?_eq_getElem hk, Option.getD_some] at h1 h2
  generalize r[k] = y at h1 h2
  simp [Lit.wf, IntKind.min, IntKind.max, IntKind.signed, IntKind.bits]
  omega
def zero8 : List Int := List.replicate 8 0
theorem zero8_ok {cap : Int} (h : 0 ≤ cap) : OkR cap zero8 := by
  refine ⟨rfl, fun k => ?_, by simpa [zero8, sumTo] using h⟩
  simp only [zero8, List.getD_eq_getElem?_getD, List.getElem?_replicate]
  split <;> simp
def right (k n : Int) : Bool := decide (0 ≤ k ∧ k < 8 ∧ 0 ≤ n)
theorem right_true {k n : Int} (h : right k n = true) : 0 ≤ k ∧ k < 8 ∧ 0 ≤ n := by unfold right at h; simpa using h
theorem right_false {k n : Int} (h : right k n = false) : k < 0 ∨ 8 ≤ k ∨ n < 0 := by
  unfold right at h
  simp only [decide_eq_false_iff_not] at h
  omega
def add (r : List Int) (k : Nat) (n : Int) : List Int := r.set k (r.getD k 0 + n)
theorem add_len (r : List Int) (k : Nat) (n : Int) : (add r k n).length = r.length := by simp [add]
theorem add_sum (r : List Int) (k : Nat) (n : Int) (hl : r.length = 8) (hk : k < 8) : sumTo (add r k n) 8 = sumTo r 8 + n := by
  unfold add
  rw [sumTo_set r k _ (by omega), if_pos hk]; omega
theorem add_get (r : List Int) (k j : Nat) (n : Int) (hl : r.length = 8) (hk : k < 8) : (add r k n).getD j 0 = if k = j then r.getD j 0 + n else r.getD j 0 := by
  unfold add
  rw [getD_set r k j _ (by omega)]
  by_cases h : k = j
  · subst h; simp
  · simp [h]
theorem add_ok {cap : Int} {r : List Int} (h : OkR cap r) {k : Nat} (hk : k < 8) {n : Int} (h0 : 0 ≤ r.getD k 0 + n) (h1 : sumTo r 8 + n ≤ cap) : OkR cap (add r k n) := by
  refine ⟨by rw [add_len]; exact h.len, fun j => ?_, by rw [add_sum r k n h.len hk]; exact h1⟩
  rw [add_get r k j n h.len hk]
  have := h.pos j
  by_cases hj : k = j
  · subst hj; rw [if_pos rfl]; exact h0
  · rw [if_neg hj]; exact this
theorem shift_ok {cap : Int} {r : List Int} (h : OkR cap r) {a b : Nat} (ha : a < 8) (hb : b < 8) {n : Int} (h0 : 0 ≤ n) (h1 : n ≤ r.getD a 0) : OkR cap (add (add r a (-n)) b n) := by
  have o1 : OkR cap (add r a (-n)) := add_ok h ha (by omega) (by have := h.le; omega)
  refine add_ok o1 hb ?_ ?_
  · have := o1.pos b; omega
  · rw [add_sum r a _ h.len ha]; have := h.le; omega
/-- What a call answers, and the row that it leaves. -/
def stepL (cap : Int) (r : List Int) (what k t n : Int) : Int × Option (List Int) :=
  if what = 0 then (if right k n = true then (if cap - sumTo r 8 < n then (18, none) else (0, some (add r k.toNat n))) else (11, none))
  else if what = 1 then (if right k n = true then (if r.getD k.toNat 0 < n then (16, none) else (0, some (add r k.toNat (-n)))) else (11, none))
  else (if (right k n && right t n) = true then (if r.getD k.toNat 0 < n then (16, none) else (0, some (add (add r k.toNat (-n)) t.toNat n))) else (11, none))
theorem step_ok {cap : Int} {r : List Int} (h : OkR cap r) (what k t n : Int) {r' : List Int} (hs : (stepL cap r what k t n).2 = some r') : OkR cap r' := by
  unfold stepL at hs
  split at hs
  · split at hs
    · rename_i hr
      obtain ⟨h0, h1, h2⟩ := right_true hr
      split at hs
      · cases hs
      · injection hs with hs
        subst hs
        exact add_ok h (by omega) (by have := h.pos k.toNat; omega) (by omega)
    · cases hs
  · split at hs
    · split at hs
      · rename_i hr
        obtain ⟨h0, h1, h2⟩ := right_true hr
        split at hs
        · cases hs
        · injection hs with hs
          subst hs
          exact add_ok h (by omega) (by omega) (by have := h.le; omega)
      · cases hs
    · split at hs
      · rename_i hr
        rw [Bool.and_eq_true] at hr
        obtain ⟨h0, h1, h2⟩ := right_true hr.1
        obtain ⟨h3, h4, h5⟩ := right_true hr.2
        split at hs
        · cases hs
        · injection hs with hs
          subst hs
          exact shift_ok h (by omega) (by omega) h2 (by omega)
      · cases hs
/-- The greatest sum among rows. -/
def peakOf : List (List Int) → Int
  | [] => 0
  | r :: rs => max (sumTo r 8) (peakOf rs)
theorem peakOf_snoc (hs : List (List Int)) (r : List Int) : peakOf (hs ++ [r]) = max (peakOf hs) (sumTo r 8) := by
  induction hs with
  | nil => simp [peakOf]; omega
  | cons a l ih => simp only [List.cons_append, peakOf, ih]; omega
theorem peakOf_bound {cap : Int} (hc : 0 ≤ cap) : ∀ hs : List (List Int), (∀ r ∈ hs, OkR cap r) → 0 ≤ peakOf hs ∧ peakOf hs ≤ cap
  | [], _ => ⟨by simp [peakOf], by simpa [peakOf] using hc⟩
  | r :: rs, h => by
    have h1 := peakOf_bound hc rs (fun x hx => h x (by simp [hx]))
    have h2 := (h r (by simp)).le
    simp only [peakOf]
    omega
theorem peakOf_ge {hs : List (List Int)} {r : List Int} (h : r ∈ hs) : sumTo r 8 ≤ peakOf hs := by
  induction hs with
  | nil => cases h
  | cons a l ih =>
    simp only [peakOf]
    rcases List.mem_cons.1 h with rfl | h
    · omega
    · have := ih h; omega
/-- All calls, one behind the other: the row, and all rows so far. -/
structure Run where
  row : List Int
  hist : List (List Int)
def stepR (cap : Int) (s : Run) (what k t n : Int) : Run := match (stepL cap s.row what k t n).2 with
  | some r' => ⟨r', s.hist ++ [r']⟩
  | none => s
structure OkS (cap : Int) (s : Run) : Prop where
  ne : ∃ hs, s.hist = hs ++ [s.row]
  ok : ∀ r ∈ s.hist, OkR cap r
theorem OkS.row {cap : Int} {s : Run} (h : OkS cap s) : OkR cap s.row := by
  obtain ⟨hs, e⟩ := h.ne
  exact h.ok _ (by rw [e]; simp)
theorem OkS.step {cap : Int} {s : Run} (h : OkS cap s) (what k t n : Int) : OkS cap (stepR cap s what k t n) := by
  unfold stepR
  have hr := h.row
  cases hs : (stepL cap s.row what k t n).2 with
  | none => exact h
  | some r' =>
    have h1 := step_ok hr what k t n hs
    exact ⟨⟨s.hist, rfl⟩, fun r hm => by
      rcases List.mem_append.1 hm with hm | hm
      · exact h.ok r hm
      · simp at hm; subst hm; exact h1⟩
theorem OkS.start {cap : Int} (h : 0 ≤ cap) : OkS cap ⟨zero8, [zero8]⟩ := ⟨⟨[], rfl⟩, fun r hm => by simp at hm; subst hm; exact zero8_ok h⟩
theorem step_len (cap : Int) (s : Run) (what k t n : Int) : (stepR cap s what k t n).hist.length ≤ s.hist.length + 1 := by
  unfold stepR
  cases (stepL cap s.row what k t n).2 <;> simp
end Go.Proofs.Ytchnhmcedmicgaa.Led
