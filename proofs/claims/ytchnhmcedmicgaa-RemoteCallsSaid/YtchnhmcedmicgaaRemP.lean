/- Plain words on workers' queues: what waits where, what a call answers and what it leaves. No program stands here. -/
import Derived.Test.YtchnhmcedmicgaaAidMem
namespace Go.Proofs.Ytchnhmcedmicgaa.Rem
/-- An item: who sent it, its address, its number. -/
structure It where
  frm : Int
  at_ : Int
  seq : Int
def it0 : It := ⟨0, 0, 0⟩
structure QRun where
  rows : List (List It)
  sent : Int → Int → Nat
def row (s : QRun) (k : Nat) : List It := s.rows.getD k []
def hasAt (a : Int) (r : List It) : Bool := r.any fun x => x.at_ == a
def whr (s : QRun) (a : Int) : Option Nat := s.rows.findIdx? (hasAt a)
def total (s : QRun) : Nat := (s.rows.map List.length).sum
def Waits (s : QRun) (a : Int) (k : Nat) : Prop := ∃ x ∈ row s k, x.at_ = a
structure OkQ (n : Nat) (s : QRun) (m : Nat) : Prop where
  n1 : 1 ≤ n
  n64 : n ≤ 64
  len : s.rows.length = n
  one : ∀ j k x y, x ∈ row s j → y ∈ row s k → x.at_ = y.at_ → j = k
  nod : ∀ k, (row s k).Pairwise fun x y => x.at_ ≠ y.at_
  rng : ∀ k x, x ∈ row s k → 0 ≤ x.at_ ∧ x.at_ < 1048576 ∧ 0 ≤ x.frm ∧ x.frm < n ∧ 1 ≤ x.seq ∧ x.seq ≤ s.sent x.frm k
  rise : ∀ k, (row s k).Pairwise fun x y => x.frm = y.frm → x.seq < y.seq
  most : ∀ f t, s.sent f t ≤ m
  few : total s ≤ m
theorem hasAt_iff (a : Int) (r : List It) : hasAt a r = true ↔ ∃ x ∈ r, x.at_ = a := by simp [hasAt]
theorem row_out {s : QRun} {k : Nat} (h : s.rows.length ≤ k) : row s k = [] := by
  unfold row
  rw [List.getD_eq_getElem?_getD, List.getElem?_eq_none h]
  rfl
theorem row_in {s : QRun} {k : Nat} (h : k < s.rows.length) : row s k = s.rows[k] := by
  unfold row
  rw [List.getD_eq_getElem?_getD, List.getElem?_eq_getElem h]
  rfl
theorem Waits.lt {s : QRun} {a : Int} {k : Nat} (h : Waits s a k) : k < s.rows.length := by
  obtain ⟨x, hx, _⟩ := h
  rcases Nat.lt_or_ge k s.rows.length with h | h
  · exact h
  · rw [row_out h] at hx; cases hx
theorem whr_some {s : QRun} {a : Int} {k : Nat} (h : whr s a = some k) : k < s.rows.length ∧ Waits s a k := by
  unfold whr at h
  rw [List.findIdx?_eq_some_iff_getElem] at h
  obtain ⟨hk, h1, _⟩ := h
  rw [hasAt_iff] at h1
  rw [← row_in hk] at h1
  exact ⟨hk, h1⟩
def whrI (s : QRun) (a : Int) : Option Int := match whr s a with
  | some k => some (k : Int)
  | none => none
theorem whrI_some {s : QRun} {a : Int} {k : Nat} (h : whr s a = some k) : whrI s a = some (k : Int) := by unfold whrI; rw [h]
theorem whrI_none {s : QRun} {a : Int} (h : whr s a = none) : whrI s a = none := by unfold whrI; rw [h]
theorem whrI_congr {s s' : QRun} {a b : Int} (h : whr s' a = whr s b) : whrI s' a = whrI s b := by unfold whrI; rw [h]
theorem whr_none {s : QRun} {a : Int} (h : whr s a = none) (k : Nat) : ¬ Waits s a k := by
  intro hw
  have hk := hw.lt
  unfold whr at h
  rw [List.findIdx?_eq_none_iff] at h
  have h1 := h _ (List.getElem_mem hk)
  obtain ⟨x, hx, he⟩ := hw
  rw [row_in hk] at hx
  rw [(hasAt_iff a _).2 ⟨x, hx, he⟩] at h1
  cases h1
theorem whr_of {n m : Nat} {s : QRun} (h : OkQ n s m) {a : Int} {k : Nat} (hw : Waits s a k) : whr s a = some k := by
  cases e : whr s a with
  | none => exact absurd hw (whr_none e k)
  | some j =>
    obtain ⟨_, x, hx, h1⟩ := whr_some e
    obtain ⟨y, hy, h2⟩ := hw
    rw [h.one j k x y hx hy (h1.trans h2.symm)]
theorem whr_ext {n m : Nat} {s : QRun} (h : OkQ n s m) {a : Int} (o : Option Nat) (h1 : ∀ k, o = some k → Waits s a k) (h2 : o = none → ∀ k, ¬ Waits s a k) : whr s a = o := by
  cases o with
  | some k => exact whr_of h (h1 k rfl)
  | none =>
    cases e : whr s a with
    | none => rfl
    | some j => exact absurd (whr_some e).2 (h2 rfl j)
theorem row_set (rows : List (List It)) (f : Int → Int → Nat) (k j : Nat) (r : List It) (hk : k < rows.length) : row ⟨rows.set k r, f⟩ j = if j = k then r else rows.getD j [] := by
  unfold row
  simp only [List.getD_eq_getElem?_getD, List.getElem?_set]
  by_cases e : k = j
  · subst e
    simp [hk]
  · rw [if_neg e, if_neg fun e' => e e'.symm]
theorem sum_set (L : List (List It)) : ∀ (k : Nat) (r : List It), k < L.length → ((L.set k r).map List.length).sum + (L.getD k []).length = (L.map List.length).sum + r.length := by
  induction L with
  | nil => intro k r h; simp at h
  | cons x L ih =>
    intro k r h
    cases k with
    | zero => simp [List.getD_eq_getElem?_getD]; omega
    | succ k =>
      have := ih k r (by simpa using h)
      simp [List.getD_eq_getElem?_getD] at this ⊢
      omega
theorem row_le_total {s : QRun} (k : Nat) : (row s k).length ≤ total s := by
  rcases Nat.lt_or_ge k s.rows.length with h | h
  · have h1 := sum_set s.rows k [] h
    unfold total row
    simp at h1 ⊢
    omega
  · rw [row_out h]; exact Nat.zero_le _
/-! ### Send -/
def sendC (n : Nat) (s : QRun) (f t a : Int) : Int := if (0 ≤ f ∧ f < n) ∧ (0 ≤ t ∧ t < n) ∧ 0 ≤ a ∧ a < 1048576 then (if (whr s a).isSome = true then 15 else 0) else 11
def sent1 (s : QRun) (f t : Int) : Int → Int → Nat := fun f' t' => if f' = f ∧ t' = t then s.sent f t + 1 else s.sent f' t'
def sendD (s : QRun) (f t a : Int) : QRun := ⟨s.rows.set t.toNat (row s t.toNat ++ [⟨f, a, (s.sent f t : Int) + 1⟩]), sent1 s f t⟩
def sendS (n : Nat) (s : QRun) (f t a : Int) : QRun := if sendC n s f t a = 0 then sendD s f t a else s
theorem sendC_zero {n : Nat} {s : QRun} {f t a : Int} (h : sendC n s f t a = 0) : ((0 ≤ f ∧ f < n) ∧ (0 ≤ t ∧ t < n) ∧ 0 ≤ a ∧ a < 1048576) ∧ whr s a = none := by
  unfold sendC at h
  split at h
  · next h1 =>
    split at h
    · omega
    · next h2 => exact ⟨h1, by simpa using h2⟩
  · omega
theorem row_sendD {n m : Nat} {s : QRun} (h : OkQ n s m) {f t a : Int} (ht : 0 ≤ t ∧ t < n) (j : Nat) : row (sendD s f t a) j = if j = t.toNat then row s t.toNat ++ [⟨f, a, (s.sent f t : Int) + 1⟩] else row s j := row_set _ _ _ _ _ (by rw [h.len]; omega)
theorem sent1_le (s : QRun) (f t f' t' : Int) : s.sent f' t' ≤ sent1 s f t f' t' := by
  unfold sent1
  split
  · next h => rw [h.1, h.2]; omega
  · exact Nat.le_refl _
theorem mem_sendD {n m : Nat} {s : QRun} (h : OkQ n s m) {f t a : Int} (ht : 0 ≤ t ∧ t < n) {j : Nat} {x : It} (hx : x ∈ row (sendD s f t a) j) : x ∈ row s j ∨ (j = t.toNat ∧ x = ⟨f, a, (s.sent f t : Int) + 1⟩) := by
  rw [row_sendD h ht] at hx
  by_cases e : j = t.toNat
  · rw [if_pos e] at hx
    rcases List.mem_append.1 hx with hx | hx
    · left; rw [e]; exact hx
    · right; exact ⟨e, by simpa using hx⟩
  · rw [if_neg e] at hx; exact .inl hx
theorem sendD_ok {n m : Nat} {s : QRun} (h : OkQ n s m) {f t a : Int} (hc : sendC n s f t a = 0) : OkQ n (sendD s f t a) (m + 1) := by
  obtain ⟨⟨hf, ht, ha⟩, hw⟩ := sendC_zero hc
  have hnw := whr_none hw
  refine ⟨h.n1, h.n64, by simp [sendD, h.len], fun j k x y hx hy e => ?_, fun k => ?_, fun k x hx => ?_, fun k => ?_, fun f' t' => ?_, ?_⟩
  · rcases mem_sendD h ht hx with hx | ⟨e1, e2⟩
    · rcases mem_sendD h ht hy with hy | ⟨e3, e4⟩
      · exact h.one j k x y hx hy e
      · subst e4; exact absurd ⟨x, hx, e⟩ (hnw j)
    · rcases mem_sendD h ht hy with hy | ⟨e3, e4⟩
      · subst e2; exact absurd ⟨y, hy, e.symm⟩ (hnw k)
      · rw [e1, e3]
  · rw [row_sendD h ht]
    split
    · rw [List.pairwise_append]
      refine ⟨h.nod _, by simp, fun x hx y hy => ?_⟩
      simp at hy
      subst hy
      intro e
      exact hnw _ ⟨x, hx, e⟩
    · exact h.nod k
  · rcases mem_sendD h ht hx with hx | ⟨e1, e2⟩
    · obtain ⟨a1, a2, a3, a4, a5, a6⟩ := h.rng k x hx
      have := sent1_le s f t x.frm k
      exact ⟨a1, a2, a3, a4, a5, by show x.seq ≤ (sent1 s f t x.frm k : Nat); omega⟩
    · subst e2
      refine ⟨ha.1, ha.2, hf.1, hf.2, by simp; omega, ?_⟩
      show (s.sent f t : Int) + 1 ≤ (sent1 s f t f k : Nat)
      unfold sent1
      rw [if_pos ⟨rfl, by omega⟩]
      omega
  · rw [row_sendD h ht]
    split
    · rw [List.pairwise_append]
      refine ⟨h.rise _, by simp, fun x hx y hy => ?_⟩
      simp at hy
      subst hy
      intro e
      obtain ⟨_, _, _, _, _, a6⟩ := h.rng _ x hx
      show x.seq < (s.sent f t : Int) + 1
      rw [show x.frm = f from e, Int.toNat_of_nonneg ht.1] at a6
      omega
    · exact h.rise k
  · have := h.most f' t'
    have := h.most f t
    show sent1 s f t f' t' ≤ m + 1
    unfold sent1
    split <;> omega
  · have := sum_set s.rows t.toNat (s.rows.getD t.toNat [] ++ [⟨f, a, (s.sent f t : Int) + 1⟩]) (by rw [h.len]; omega)
    rw [List.length_append, List.length_singleton] at this
    have h2 : (s.rows.map List.length).sum ≤ m := h.few
    show ((s.rows.set t.toNat (s.rows.getD t.toNat [] ++ [⟨f, a, (s.sent f t : Int) + 1⟩])).map List.length).sum ≤ m + 1
    omega
theorem total_sendD {n m : Nat} {s : QRun} (h : OkQ n s m) {f t a : Int} (ht : 0 ≤ t ∧ t < n) : total (sendD s f t a) = total s + 1 := by
  have := sum_set s.rows t.toNat (s.rows.getD t.toNat [] ++ [⟨f, a, (s.sent f t : Int) + 1⟩]) (by rw [h.len]; omega)
  rw [List.length_append, List.length_singleton] at this
  show ((s.rows.set t.toNat (s.rows.getD t.toNat [] ++ [⟨f, a, (s.sent f t : Int) + 1⟩])).map List.length).sum = (s.rows.map List.length).sum + 1
  omega
theorem whr_sendD {n m : Nat} {s : QRun} (h : OkQ n s m) {f t a : Int} (hc : sendC n s f t a = 0) (b : Int) : whr (sendD s f t a) b = if b = a then some t.toNat else whr s b := by
  obtain ⟨⟨hf, ht, ha⟩, hw⟩ := sendC_zero hc
  refine whr_ext (sendD_ok h hc) _ (fun k hk => ?_) (fun hn k ⟨x, hx, he⟩ => ?_)
  · by_cases e : b = a
    · rw [if_pos e] at hk
      injection hk with hk
      subst hk e
      exact ⟨⟨f, b, (s.sent f t : Int) + 1⟩, by rw [row_sendD h ht, if_pos rfl]; simp, rfl⟩
    · rw [if_neg e] at hk
      obtain ⟨_, x, hx, he⟩ := whr_some hk
      refine ⟨x, ?_, he⟩
      rw [row_sendD h ht]
      split
      · next e2 => subst e2; exact List.mem_append_left _ hx
      · exact hx
  · by_cases e : b = a
    · rw [if_pos e] at hn; cases hn
    · rw [if_neg e] at hn
      rcases mem_sendD h ht hx with hx | ⟨_, e2⟩
      · exact whr_none hn k ⟨x, hx, he⟩
      · subst e2; exact e he.symm
/-! ### Remove, Take -/
def keeps (a : Int) (r : List It) : List It := r.filter fun x => !(x.at_ == a)
def remD (s : QRun) (a : Int) (k : Nat) : QRun := ⟨s.rows.set k (keeps a (row s k)), s.sent⟩
def remS (s : QRun) (a : Int) : QRun := match whr s a with
  | some k => remD s a k
  | none => s
theorem mem_keeps {a : Int} {r : List It} {x : It} : x ∈ keeps a r ↔ x ∈ r ∧ x.at_ ≠ a := by simp [keeps]
theorem keeps_len {a : Int} : ∀ {r : List It}, r.Pairwise (fun x y => x.at_ ≠ y.at_) → (∃ x ∈ r, x.at_ = a) → (keeps a r).length + 1 = r.length
  | [], _, ⟨x, hx, _⟩ => by cases hx
  | y :: r, hp, ⟨x, hx, he⟩ => by
    have hp := List.pairwise_cons.1 hp
    by_cases e : y.at_ = a
    · have hk : keeps a r = r := by
        unfold keeps
        rw [List.filter_eq_self]
        intro z hz
        have := hp.1 z hz
        simp
        omega
      unfold keeps at hk ⊢
      rw [List.filter_cons_of_neg (by simp [e]), hk]
      rfl
    · have hx : x ∈ r := by
        rcases List.mem_cons.1 hx with rfl | hx
        · exact absurd he e
        · exact hx
      have := keeps_len hp.2 ⟨x, hx, he⟩
      unfold keeps at this ⊢
      rw [List.filter_cons_of_pos (by simpa using e), List.length_cons, List.length_cons, this]
theorem keeps_head {a : Int} {x : It} {r : List It} (hp : (x :: r).Pairwise (fun x y => x.at_ ≠ y.at_)) (e : x.at_ = a) : keeps a (x :: r) = r := by
  have hp := List.pairwise_cons.1 hp
  unfold keeps
  rw [List.filter_cons_of_neg (by simp [e]), List.filter_eq_self]
  intro z hz
  have := hp.1 z hz
  simp
  omega
theorem row_remD {n m : Nat} {s : QRun} (_ : OkQ n s m) {a : Int} {k : Nat} (hk : k < s.rows.length) (j : Nat) : row (remD s a k) j = if j = k then keeps a (row s k) else row s j := row_set _ _ _ _ _ hk
theorem mem_remD {n m : Nat} {s : QRun} (h : OkQ n s m) {a : Int} {k : Nat} (hk : k < s.rows.length) {j : Nat} {x : It} (hx : x ∈ row (remD s a k) j) : x ∈ row s j ∧ (j = k → x.at_ ≠ a) := by
  rw [row_remD h hk] at hx
  by_cases e : j = k
  · rw [if_pos e] at hx
    rw [mem_keeps] at hx
    exact ⟨by rw [e]; exact hx.1, fun _ => hx.2⟩
  · rw [if_neg e] at hx
    exact ⟨hx, fun e' => absurd e' e⟩
theorem remD_ok {n m : Nat} {s : QRun} (h : OkQ n s m) {a : Int} {k : Nat} (hk : k < s.rows.length) : OkQ n (remD s a k) m := by
  refine ⟨h.n1, h.n64, by simp [remD, h.len], fun i j x y hx hy e => h.one i j x y (mem_remD h hk hx).1 (mem_remD h hk hy).1 e, fun j => ?_, fun j x hx => h.rng j x (mem_remD h hk hx).1, fun j => ?_, h.most, ?_⟩
  · rw [row_remD h hk]
    split
    · exact (h.nod k).filter _
    · exact h.nod j
  · rw [row_remD h hk]
    split
    · exact (h.rise k).filter _
    · exact h.rise j
  · have := sum_set s.rows k (keeps a (row s k)) hk
    have h2 := h.few
    have h3 : (keeps a (row s k)).length ≤ (row s k).length := List.length_filter_le _ _
    unfold total at h2
    unfold row at this h3
    show ((s.rows.set k (keeps a (s.rows.getD k []))).map List.length).sum ≤ m
    omega
theorem remS_ok {n m : Nat} {s : QRun} (h : OkQ n s m) (a : Int) : OkQ n (remS s a) m := by
  unfold remS
  cases e : whr s a with
  | none => exact h
  | some k => exact remD_ok h (whr_some e).1
theorem total_rem {n m : Nat} {s : QRun} (h : OkQ n s m) {a : Int} {k : Nat} (e : whr s a = some k) : total (remS s a) + 1 = total s := by
  obtain ⟨hk, hw⟩ := whr_some e
  have h1 := sum_set s.rows k (keeps a (row s k)) hk
  have h2 := keeps_len (h.nod k) hw
  unfold remS
  rw [e]
  unfold total
  unfold row at h1 h2
  unfold remD row
  show ((s.rows.set k (keeps a (s.rows.getD k []))).map List.length).sum + 1 = _
  omega
theorem whr_rem {n m : Nat} {s : QRun} (h : OkQ n s m) (a b : Int) : whr (remS s a) b = if b = a then none else whr s b := by
  cases e : whr s a with
  | none =>
    have e2 : remS s a = s := by unfold remS; rw [e]
    rw [e2]
    split
    · next e3 => rw [e3]; exact e
    · rfl
  | some k =>
    obtain ⟨hk, hw⟩ := whr_some e
    have e2 : remS s a = remD s a k := by unfold remS; rw [e]
    rw [e2]
    refine whr_ext (remD_ok h hk) _ (fun j hj => ?_) (fun hn j ⟨x, hx, he⟩ => ?_)
    · by_cases e3 : b = a
      · rw [if_pos e3] at hj; cases hj
      · rw [if_neg e3] at hj
        obtain ⟨_, x, hx, he⟩ := whr_some hj
        refine ⟨x, ?_, he⟩
        rw [row_remD h hk]
        split
        · next e4 => subst e4; exact mem_keeps.2 ⟨hx, by omega⟩
        · exact hx
    · obtain ⟨hx1, hx2⟩ := mem_remD h hk hx
      by_cases e3 : b = a
      · have : j = k := by
          have := whr_of h ⟨x, hx1, he⟩
          rw [e3, e] at this
          injection this with this
          exact this.symm
        exact hx2 this (he.trans e3)
      · rw [if_neg e3] at hn
        exact whr_none hn j ⟨x, hx1, he⟩
def takeV (n : Nat) (s : QRun) (w : Int) : Option It := if 0 ≤ w ∧ w < n then (row s w.toNat).head? else none
def takeS (n : Nat) (s : QRun) (w : Int) : QRun := match takeV n s w with
  | some x => remS s x.at_
  | none => s
theorem takeV_some {n : Nat} {s : QRun} {w : Int} {x : It} (h : takeV n s w = some x) : (0 ≤ w ∧ w < n) ∧ ∃ r, row s w.toNat = x :: r := by
  unfold takeV at h
  split at h
  · next hw =>
    refine ⟨hw, ?_⟩
    cases hr : row s w.toNat with
    | nil => rw [hr] at h; cases h
    | cons y r => rw [hr] at h; simp at h; subst h; exact ⟨r, rfl⟩
  · cases h
/-- Taking: the item waited here, it goes, and the rest of the queue stays. -/
theorem take_some {n m : Nat} {s : QRun} (h : OkQ n s m) {w : Int} {x : It} (hx : takeV n s w = some x) :
    whr s x.at_ = some w.toNat ∧ takeS n s w = remS s x.at_ ∧ (∀ r, row s w.toNat = x :: r → row (takeS n s w) w.toNat = r) ∧ ∀ j, j ≠ w.toNat → row (takeS n s w) j = row s j := by
  obtain ⟨hw, r, hr⟩ := takeV_some hx
  have hk : w.toNat < s.rows.length := by rw [h.len]; omega
  have e : whr s x.at_ = some w.toNat := whr_of h ⟨x, by rw [hr]; simp, rfl⟩
  have e2 : takeS n s w = remS s x.at_ := by unfold takeS; rw [hx]
  have e3 : remS s x.at_ = remD s x.at_ w.toNat := by unfold remS; rw [e]
  refine ⟨e, e2, fun r' hr' => ?_, fun j hj => ?_⟩
  · rw [e2, e3, row_remD h hk, if_pos rfl, hr']
    exact keeps_head (by rw [← hr']; exact h.nod _) rfl
  · rw [e2, e3, row_remD h hk, if_neg hj]
theorem takeS_ok {n m : Nat} {s : QRun} (h : OkQ n s m) (w : Int) : OkQ n (takeS n s w) m := by
  unfold takeS
  cases takeV n s w with
  | none => exact h
  | some x => exact remS_ok h _
def q0 (n : Nat) : QRun := ⟨List.replicate n [], fun _ _ => 0⟩
theorem row_q0 (n k : Nat) : row (q0 n) k = [] := by
  unfold row q0
  rw [List.getD_eq_getElem?_getD, List.getElem?_replicate]
  split <;> rfl
theorem q0_ok (n : Nat) (h1 : 1 ≤ n) (h2 : n ≤ 64) : OkQ n (q0 n) 0 := by
  refine ⟨h1, h2, by simp [q0], fun j k x y hx => ?_, fun k => ?_, fun k x hx => ?_, fun k => ?_, fun _ _ => Nat.le_refl _, ?_⟩
  · rw [row_q0] at hx; cases hx
  · rw [row_q0]; exact List.Pairwise.nil
  · rw [row_q0] at hx; cases hx
  · rw [row_q0]; exact List.Pairwise.nil
  · simp [total, q0]
theorem whr_q0 (n : Nat) (a : Int) : whr (q0 n) a = none := by
  cases e : whr (q0 n) a with
  | none => rfl
  | some k =>
    obtain ⟨_, x, hx, _⟩ := whr_some e
    rw [row_q0] at hx; cases hx
end Go.Proofs.Ytchnhmcedmicgaa.Rem
