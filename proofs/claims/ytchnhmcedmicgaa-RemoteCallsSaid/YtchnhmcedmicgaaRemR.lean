/- The plain law of RemoteEmpty: a queue is emptied, and filled again. -/
import Derived.Test.YtchnhmcedmicgaaRemQ
namespace Go.Proofs.Ytchnhmcedmicgaa.Rem
open Go.RowKit Go.Proofs.Ytchnhmcedmicgaa.Aid
theorem remS_sent (s : QRun) (a : Int) : (remS s a).sent = s.sent := by
  unfold remS
  split <;> rfl
/-- While it is emptied. -/
structure Emp (n m : Nat) (s0 : QRun) (k : Int) (s : QRun) (i : Nat) : Prop where
  ok : OkQ n s m
  row_ : rowI n s k = (rowI n s0 k).drop i
  tot : total s + i = total s0
  sent_ : s.sent = s0.sent
  gone : ∀ j x, j < i → (rowI n s0 k)[j]? = some x → whr s x.at_ = none
  stay : ∀ a, (∀ j x, j < i → (rowI n s0 k)[j]? = some x → x.at_ ≠ a) → whr s a = whr s0 a
theorem Emp.start {n m : Nat} {s0 : QRun} (h : OkQ n s0 m) (k : Int) : Emp n m s0 k s0 0 :=
  ⟨h, by rw [List.drop_zero], rfl, rfl, fun j x hj => absurd hj (Nat.not_lt_zero _), fun _ _ => rfl⟩
theorem rowI_mem {n : Nat} {s : QRun} {k : Int} {x : It} (h : x ∈ rowI n s k) : (0 ≤ k ∧ k < n) ∧ x ∈ row s k.toNat := by
  unfold rowI at h
  split at h
  · next hk => exact ⟨hk, h⟩
  · cases h
theorem Emp.step {n m : Nat} {s0 s : QRun} {k : Int} {i : Nat} (h : Emp n m s0 k s i) (h0 : OkQ n s0 m) {x : It} (hx : (rowI n s0 k)[i]? = some x) :
    takeV n s k = some x ∧ Emp n m s0 k (takeS n s k) (i + 1) ∧ whrV (takeS n s k) x.at_ = -1 ∧ whrV s0 x.at_ = k ∧ okI .i64 x.at_ := by
  have hl := (List.getElem?_eq_some_iff.1 hx).1
  have hd : rowI n s k = x :: (rowI n s0 k).drop (i + 1) := by
    rw [h.row_, List.drop_eq_getElem_cons hl]
    congr 1
    exact (List.getElem?_eq_some_iff.1 hx).2
  have htv : takeV n s k = some x := by rw [takeV_row, hd]; rfl
  obtain ⟨e1, e2, e3, e4⟩ := take_some h.ok htv
  obtain ⟨hk, _⟩ := takeV_some htv
  have hm0 : x ∈ rowI n s0 k := List.mem_of_getElem? hx
  have hm0' := (rowI_mem hm0).2
  have hw0 := whr_of h0 ⟨x, hm0', rfl⟩
  have hr := h0.rng _ x hm0'
  have hwr := whr_rem h.ok x.at_
  have hrow : row s k.toNat = x :: (rowI n s0 k).drop (i + 1) := by rw [← hd]; unfold rowI; rw [if_pos hk]
  refine ⟨htv, ⟨takeS_ok h.ok k, ?_, ?_, ?_, fun j y hj hy => ?_, fun a ha => ?_⟩, ?_, ?_, okI_at hr.1 hr.2.1⟩
  · have := e3 _ hrow
    unfold rowI
    rw [if_pos hk, this]
    unfold rowI
    rw [if_pos hk]
  · have h1 := total_rem h.ok e1
    have h2 := h.tot
    rw [e2]
    omega
  · rw [e2, remS_sent, h.sent_]
  · rw [e2, hwr]
    by_cases e : y.at_ = x.at_
    · rw [if_pos e]
    · rw [if_neg e]
      refine h.gone j y ?_ hy
      by_cases hji : j = i
      · subst hji
        rw [hx] at hy
        injection hy with hy
        exact absurd (by rw [hy]) e
      · omega
  · rw [e2, hwr, if_neg fun e => ha i x (by omega) hx e.symm]
    exact h.stay a fun j y hj hy => ha j y (by omega) hy
  · unfold whrV
    rw [e2, hwr, if_pos rfl]
  · unfold whrV
    rw [hw0]
    exact Int.toNat_of_nonneg hk.1
/-- While it is filled again. -/
structure Fill (n m : Nat) (s0 : QRun) (k : Int) (s : QRun) (i : Nat) : Prop where
  ok : OkQ n s (m + i)
  tot : total s + (rowI n s0 k).length = total s0 + i
  wait : ∀ j x, i ≤ j → (rowI n s0 k)[j]? = some x → whr s x.at_ = none
  len : (rowI n s k).length = i
  like : ∀ (j : Nat) (y : It), (rowI n s k)[j]? = some y → ∃ x, (rowI n s0 k)[j]? = some x ∧ y.at_ = x.at_ ∧ y.frm = x.frm ∧ x.seq < y.seq
  sent_ : ∀ f t, s0.sent f t ≤ s.sent f t
theorem OkQ.more {n m : Nat} {s : QRun} (h : OkQ n s m) (i : Nat) : OkQ n s (m + i) := { h with most := fun f t => Nat.le_trans (h.most f t) (Nat.le_add_right _ _), few := Nat.le_trans h.few (Nat.le_add_right _ _) }
theorem Fill.start {n m : Nat} {s0 s : QRun} {k : Int} (h : Emp n m s0 k s (rowI n s0 k).length) : Fill n m s0 k s 0 := by
  have hr : rowI n s k = [] := by rw [h.row_, List.drop_eq_nil_of_le (Nat.le_refl _)]
  refine ⟨h.ok, h.tot, fun j x _ hx => h.gone j x (List.getElem?_eq_some_iff.1 hx).1 hx, by rw [hr]; rfl, fun j y hy => ?_, fun f t => by rw [h.sent_]; exact Nat.le_refl _⟩
  rw [hr] at hy
  simp at hy
theorem Fill.step {n m : Nat} {s0 s : QRun} {k : Int} {i : Nat} (h : Fill n m s0 k s i) (h0 : OkQ n s0 m) {x : It} (hx : (rowI n s0 k)[i]? = some x) :
    sendC n s x.frm k x.at_ = 0 ∧ Fill n m s0 k (sendS n s x.frm k x.at_) (i + 1) := by
  have hm0 : x ∈ rowI n s0 k := List.mem_of_getElem? hx
  obtain ⟨hk, hm0'⟩ := rowI_mem hm0
  have hr := h0.rng _ x hm0'
  have hc : sendC n s x.frm k x.at_ = 0 := by
    unfold sendC
    rw [if_pos ⟨⟨hr.2.2.1, hr.2.2.2.1⟩, hk, hr.1, hr.2.1⟩, h.wait i x (Nat.le_refl _) hx]
    rfl
  have hrow : rowI n (sendD s x.frm k x.at_) k = rowI n s k ++ [⟨x.frm, x.at_, (s.sent x.frm k : Int) + 1⟩] := by
    unfold rowI
    rw [if_pos hk, if_pos hk, row_sendD h.ok hk, if_pos rfl]
  refine ⟨hc, ?_⟩
  unfold sendS
  rw [if_pos hc]
  refine ⟨sendD_ok h.ok hc, ?_, fun j y hj hy => ?_, ?_, fun j y hy => ?_, fun f t => ?_⟩
  · have h1 := total_sendD h.ok (f := x.frm) (a := x.at_) hk
    have h2 := h.tot
    omega
  · rw [whr_sendD h.ok hc, if_neg]
    · exact h.wait j y (by omega) hy
    · intro e
      have hnd := h0.nod k.toNat
      have hr0 : rowI n s0 k = row s0 k.toNat := by unfold rowI; rw [if_pos hk]
      rw [← hr0] at hnd
      have hji : i < j := by omega
      rw [List.pairwise_iff_getElem] at hnd
      obtain ⟨hli, rfl⟩ := List.getElem?_eq_some_iff.1 hx
      obtain ⟨hlj, rfl⟩ := List.getElem?_eq_some_iff.1 hy
      exact hnd i j hli hlj hji e.symm
  · rw [hrow, List.length_append, List.length_singleton, h.len]
  · rw [hrow] at hy
    by_cases hj : j < (rowI n s k).length
    · rw [List.getElem?_append_left hj] at hy
      exact h.like j y hy
    · rw [List.getElem?_append_right (by omega)] at hy
      have hjj : j = i := by
        have := (List.getElem?_eq_some_iff.1 hy).1
        have := h.len
        simp at *
        omega
      subst hjj
      rw [h.len, Nat.sub_self] at hy
      simp at hy
      subst hy
      refine ⟨x, hx, rfl, rfl, ?_⟩
      have h1 := hr.2.2.2.2.2
      rw [Int.toNat_of_nonneg hk.1] at h1
      have h2 := h.sent_ x.frm k
      show x.seq < (s.sent x.frm k : Int) + 1
      omega
  · exact Nat.le_trans (h.sent_ f t) (sent1_le s x.frm k f t)
/-! ### The rows of calls -/
theorem rsendL_len (n : Nat) (log : List RRow) (f t a : Int) : (rsendL n log f t a).length ≤ log.length + 1 := by
  unfold rsendL
  split
  · rw [List.length_append, List.length_singleton]; exact Nat.le_refl _
  · omega
theorem doL_len (n : Nat) (log : List RRow) (c : Q4) : (doL n log c).length ≤ log.length + 1 := by
  unfold doL
  split
  · exact rsendL_len _ _ _ _ _
  · split
    · unfold rtakeL
      split
      · rw [markL_len]; omega
      · omega
    · split
      · rw [markL_len]; omega
      · omega
/-- What the law holds through its calls. -/
structure DQ (w0 w : World) (p : Nat) (F : List Nat) (n m : Nat) (s : QRun) (rp : Nat) (G : List Nat) (log : List RRow) (j : Nat) : Prop where
  both : BothQ w p F n m s rp G log
  base : ∀ x ∈ F ++ G, w0.heap.size ≤ x
  below : Below w0.heap.size w0 w
  few : m ≤ j
  len : log.length ≤ j
theorem DQ.next {w0 w w' : World} {p : Nat} {F : List Nat} {n m : Nat} {s s' : QRun} {rp : Nat} {G : List Nat} {log log' : List RRow} {j : Nat} (h : DQ w0 w p F n m s rp G log j) (k : DoneQ p F n m s' rp G log' w w') (hl : log'.length ≤ log.length + 1) :
    ∃ F' G' m', DQ w0 w' p F' n m' s' rp G' log' (j + 1) := by
  obtain ⟨F', G', m', hm, h1, h2, h3, h4⟩ := k
  have hz := h.below.size
  have hfw := h.few
  have hln := h.len
  refine ⟨F', G', m', h1, fun x hx => ?_, below_kept h.below h2 hz h.base, by omega, by omega⟩
  rcases List.mem_append.1 hx with hx | hx
  · rcases h3 x hx with e | e
    · exact h.base x (List.mem_append_left _ e)
    · omega
  · rcases h4 x hx with e | e
    · exact h.base x (List.mem_append_right _ e)
    · omega
end Go.Proofs.Ytchnhmcedmicgaa.Rem
