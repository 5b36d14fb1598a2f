/- Plain words on runs of pages: a span that is given back, where a page lies, and the pages one by one. No function of the program is walked here. -/
import Derived.Test.YtldlogmjkbhomaaSpaP
import Derived.Test.YtldlogmjkbhomaaAidObj
namespace Go.Proofs.Ytldlogmjkbhomaa.Spa
open Go.RowKit Go.Proofs.Ytldlogmjkbhomaa.Aid
def upR (xs : List Rn) (k : Nat) : Bool := decide (k + 1 < xs.length) && !(xs.getD (k + 1) r0).t
def dnR (xs : List Rn) (k : Nat) : Bool := decide (0 < k) && !(xs.getD (k - 1) r0).t
def giveR (xs : List Rn) (k : Nat) : Rn := ⟨if dnR xs k = true then (xs.getD (k - 1) r0).p else (xs.getD k r0).p, (xs.getD k r0).n + (if upR xs k = true then (xs.getD (k + 1) r0).n else 0) + (if dnR xs k = true then (xs.getD (k - 1) r0).n else 0), false⟩
def giveX (xs : List Rn) (k : Nat) : List Rn := xs.take (if dnR xs k = true then k - 1 else k) ++ giveR xs k :: xs.drop (if upR xs k = true then k + 2 else k + 1)
/-- The span that begins at a page. -/
def findT (xs : List Rn) (page : Int) : Option Nat := (List.range xs.length).find? fun k => (xs.getD k r0).t && ((((xs.getD k r0).p : Nat) : Int) == page)
def giveN (page : Int) (xs : List Rn) : Int := match findT xs page with
  | none => 0
  | some k => (((xs.getD k r0).n : Nat) : Int)
def giveE (page : Int) (xs : List Rn) : Int := match findT xs page with
  | none => 12
  | some _ => 0
def giveS (page : Int) (xs : List Rn) : List Rn := match findT xs page with
  | none => xs
  | some k => giveX xs k
theorem findT_some {xs : List Rn} {page : Int} {k : Nat} (h : findT xs page = some k) : k < xs.length ∧ (xs.getD k r0).t = true ∧ (((xs.getD k r0).p : Nat) : Int) = page := by
  have h1 := List.mem_of_find?_eq_some h
  have h2 := List.find?_some h
  simp only [Bool.and_eq_true, beq_iff_eq] at h2
  exact ⟨List.mem_range.1 h1, h2.1, h2.2⟩
theorem getD_at {xs : List Rn} {k : Nat} (h : k < xs.length) : xs.getD k r0 = xs[k] := by rw [List.getD_eq_getElem?_getD, List.getElem?_eq_getElem h]; rfl
theorem mono_p {P : Nat} {xs : List Rn} (h : OkS P xs) {i j : Nat} (hij : i < j) (hj : j < xs.length) : (xs.getD i r0).p + (xs.getD i r0).n ≤ (xs.getD j r0).p := by
  have hc := h.ch
  rw [split_at (show i < xs.length by omega)] at hc
  obtain ⟨_, _, _, _, c2⟩ := chain_in hc
  have e : xs.getD j r0 = (xs.drop (i + 1)).getD (j - i - 1) r0 := by
    simp only [List.getD_eq_getElem?_getD, List.getElem?_drop]
    rw [show i + 1 + (j - i - 1) = j by omega]
  have hl : j - i - 1 < (xs.drop (i + 1)).length := by rw [List.length_drop]; omega
  rw [e]
  generalize xs.drop (i + 1) = B at *
  rw [split_at hl] at c2
  have := chain_in c2
  omega
theorem pos_n {P : Nat} {xs : List Rn} (h : OkS P xs) {k : Nat} (hk : k < xs.length) : 1 ≤ (xs.getD k r0).n ∧ (xs.getD k r0).p + (xs.getD k r0).n ≤ P := by
  have hc := h.ch
  rw [split_at hk] at hc
  have := chain_in hc
  omega
theorem len_le {P : Nat} {xs : List Rn} (h : OkS P xs) : xs.length ≤ 4096 := by
  have := chain_le _ h.ch
  have := h.n
  omega
/-- Each page lies in a run. -/
theorem has_page : ∀ (xs : List Rn) {a b : Nat}, chain a xs b → ∀ i, a ≤ i → i < b → ∃ k, k < xs.length ∧ (xs.getD k r0).p ≤ i ∧ i < (xs.getD k r0).p + (xs.getD k r0).n
  | [], a, b, h, i, h1, h2 => by cases h; omega
  | r :: rs, a, b, h, i, h1, h2 => by
    obtain ⟨e, h3, h4⟩ := h
    by_cases hi : i < a + r.n
    · exact ⟨0, by simp, by simp; omega, by simp; omega⟩
    · obtain ⟨k, k1, k2, k3⟩ := has_page rs h4 i (by omega) h2
      exact ⟨k + 1, by simpa using k1, by simpa using k2, by simpa using k3⟩
/-- The span is that of the page's run, if it begins there. -/
theorem findT_at {P : Nat} {xs : List Rn} (h : OkS P xs) {k i : Nat} (hk : k < xs.length) (h1 : (xs.getD k r0).p ≤ i) (h2 : i < (xs.getD k r0).p + (xs.getD k r0).n) :
    findT xs (i : Int) = if (xs.getD k r0).t = true ∧ (xs.getD k r0).p = i then some k else none := by
  have huniq : ∀ j, j < xs.length → (xs.getD j r0).p = i → j = k := fun j hj e => by
    rcases Nat.lt_trichotomy j k with h3 | h3 | h3
    · have := mono_p h h3 hk
      have := pos_n h hj
      omega
    · exact h3
    · have := mono_p h h3 hj
      omega
  split
  · next hc =>
    cases hf : findT xs (i : Int) with
    | none =>
      have := List.find?_eq_none.1 hf k (List.mem_range.2 hk)
      simp only [Bool.and_eq_true, beq_iff_eq, not_and] at this
      exact absurd (by rw [hc.2]) (this hc.1)
    | some j =>
      obtain ⟨j1, _, j3⟩ := findT_some hf
      rw [huniq j j1 (by omega)]
  · next hc =>
    cases hf : findT xs (i : Int) with
    | none => rfl
    | some j =>
      obtain ⟨j1, j2, j3⟩ := findT_some hf
      have := huniq j j1 (by omega)
      subst this
      exact absurd ⟨j2, by omega⟩ hc
theorem findT_out {P : Nat} {xs : List Rn} (h : OkS P xs) {page : Int} (hp : page < 0 ∨ (P : Int) ≤ page) : findT xs page = none := by
  cases hf : findT xs page with
  | none => rfl
  | some k =>
    obtain ⟨k1, _, k3⟩ := findT_some hf
    have := pos_n h k1
    omega
theorem dn_cases (xs : List Rn) {k : Nat} (hk : k < xs.length) : (dnR xs k = false ∧ ∀ s, (xs.take k).getLast? = some s → s.t = true) ∨ (dnR xs k = true ∧ 0 < k ∧ xs.take k = xs.take (k - 1) ++ [xs.getD (k - 1) r0] ∧ (xs.getD (k - 1) r0).t = false) := by
  unfold dnR
  rcases Nat.eq_zero_or_pos k with h0 | h0
  · subst h0
    left
    exact ⟨by simp, by simp⟩
  · have e : xs.take k = xs.take (k - 1) ++ [xs.getD (k - 1) r0] := by
      rw [getD_at (show k - 1 < xs.length by omega)]
      have := List.take_succ_eq_append_getElem (l := xs) (i := k - 1) (by omega)
      rwa [show k - 1 + 1 = k by omega] at this
    cases ht : (xs.getD (k - 1) r0).t with
    | true =>
      left
      refine ⟨by simp, fun s hs => ?_⟩
      rw [e, List.getLast?_append] at hs
      simp at hs
      rw [← hs]
      simpa using ht
    | false =>
      right
      exact ⟨by simp [h0], h0, e, rfl⟩
theorem up_cases (xs : List Rn) (k : Nat) : (upR xs k = false ∧ ∀ s, (xs.drop (k + 1)).head? = some s → s.t = true) ∨ (upR xs k = true ∧ k + 1 < xs.length ∧ xs.drop (k + 1) = xs.getD (k + 1) r0 :: xs.drop (k + 2) ∧ (xs.getD (k + 1) r0).t = false) := by
  unfold upR
  rcases Nat.lt_or_ge (k + 1) xs.length with h0 | h0
  · have e : xs.drop (k + 1) = xs.getD (k + 1) r0 :: xs.drop (k + 2) := by
      rw [getD_at h0]
      exact List.drop_eq_getElem_cons h0
    cases ht : (xs.getD (k + 1) r0).t with
    | true =>
      left
      refine ⟨by simp, fun s hs => ?_⟩
      rw [e] at hs
      simp at hs
      rw [← hs]
      simpa using ht
    | false =>
      right
      exact ⟨by simp [h0], h0, e, rfl⟩
  · left
    refine ⟨by simp; omega, fun s hs => ?_⟩
    rw [List.drop_of_length_le h0] at hs
    cases hs
theorem give_ok {P : Nat} {xs : List Rn} (h : OkS P xs) {k : Nat} (hk : k < xs.length) : OkS P (giveX xs k) := by
  have hc := h.ch
  have hg := h.gp
  rw [split_at hk] at hc hg
  obtain ⟨_, n1, _, c1, c2⟩ := chain_in hc
  obtain ⟨g1, g23, _⟩ := (gaps_app _ _).1 hg
  have g2 := gaps_cons g23
  refine ⟨h.n, ?_, ?_⟩
  · unfold giveX giveR
    rcases dn_cases xs hk with ⟨d, _⟩ | ⟨d, hk0, ed, _⟩ <;> rcases up_cases xs k with ⟨u, _⟩ | ⟨u, hk1, eu, _⟩ <;> simp only [d, u, if_true, if_false, Bool.false_eq_true, Nat.add_zero]
    · exact (chain_app _ _ _ _).2 ⟨_, c1, rfl, n1, c2⟩
    · rw [eu] at c2
      obtain ⟨e1, e2, e3⟩ := c2
      exact (chain_app _ _ _ _).2 ⟨_, c1, rfl, by dsimp only; omega, by show chain (_ + (_ + _)) _ _; rw [← Nat.add_assoc]; exact e3⟩
    · rw [ed] at c1
      obtain ⟨m, d1, d2, d3, d4⟩ := (chain_app _ _ _ _).1 c1
      subst d2
      refine (chain_app _ _ _ _).2 ⟨_, d1, rfl, by dsimp only; omega, ?_⟩
      show chain (_ + (_ + _)) _ _
      have d5 : (xs.getD (k - 1) r0).p + (xs.getD (k - 1) r0).n = (xs.getD k r0).p := d4
      rw [show (xs.getD (k - 1) r0).p + ((xs.getD k r0).n + (xs.getD (k - 1) r0).n) = (xs.getD k r0).p + (xs.getD k r0).n by omega]
      exact c2
    · rw [ed] at c1
      rw [eu] at c2
      obtain ⟨e1, e2, e3⟩ := c2
      obtain ⟨m, d1, d2, d3, d4⟩ := (chain_app _ _ _ _).1 c1
      subst d2
      refine (chain_app _ _ _ _).2 ⟨_, d1, rfl, by dsimp only; omega, ?_⟩
      show chain (_ + (_ + _ + _)) _ _
      have d5 : (xs.getD (k - 1) r0).p + (xs.getD (k - 1) r0).n = (xs.getD k r0).p := d4
      rw [show (xs.getD (k - 1) r0).p + ((xs.getD k r0).n + (xs.getD (k + 1) r0).n + (xs.getD (k - 1) r0).n) = (xs.getD k r0).p + (xs.getD k r0).n + (xs.getD (k + 1) r0).n by omega]
      exact e3
  · have hl : ∀ A : List Rn, gaps A → (∀ s, A.getLast? = some s → s.t = true) → ∀ (R : Rn) (B : List Rn), gaps B → (∀ s, B.head? = some s → s.t = true) → gaps (A ++ R :: B) := fun A hA hAl R B hB hBh => by
      refine (gaps_app _ _).2 ⟨hA, ?_, fun r s e1 _ => .inl (hAl r e1)⟩
      cases B with
      | nil => trivial
      | cons s t => exact ⟨.inr (hBh s rfl), hB⟩
    unfold giveX
    refine hl _ ?_ ?_ _ _ ?_ ?_
    · rcases dn_cases xs hk with ⟨d, _⟩ | ⟨d, hk0, ed, _⟩ <;> simp only [d, if_true, if_false, Bool.false_eq_true]
      · exact g1
      · rw [ed] at g1
        exact ((gaps_app _ _).1 g1).1
    · rcases dn_cases xs hk with ⟨d, d2⟩ | ⟨d, hk0, ed, d2⟩ <;> simp only [d, if_true, if_false, Bool.false_eq_true]
      · exact d2
      · rw [ed] at g1
        intro s hs
        rcases ((gaps_app _ _).1 g1).2.2 s _ hs rfl with e | e
        · exact e
        · rw [d2] at e; cases e
    · rcases up_cases xs k with ⟨u, _⟩ | ⟨u, hk1, eu, _⟩ <;> simp only [u, if_true, if_false, Bool.false_eq_true]
      · exact g2
      · rw [eu] at g2
        exact gaps_cons g2
    · rcases up_cases xs k with ⟨u, u2⟩ | ⟨u, hk1, eu, u2⟩ <;> simp only [u, if_true, if_false, Bool.false_eq_true]
      · exact u2
      · rw [eu] at g2
        intro s hs
        rcases ((gaps_app [_] _).1 g2).2.2 _ s rfl hs with e | e
        · have e2 : (xs.getD (k + 1) r0).t = true := e
          rw [u2] at e2; cases e2
        · exact e
theorem giveS_ok {P : Nat} {xs : List Rn} (h : OkS P xs) (page : Int) : OkS P (giveS page xs) := by
  unfold giveS
  cases hf : findT xs page with
  | none => exact h
  | some k => exact give_ok h (findT_some hf).1
theorem rep_app (m n : Nat) (v : Int) : List.replicate m v ++ List.replicate n v = List.replicate (m + n) v := by rw [List.replicate_append_replicate]
theorem pages_give0 {xs : List Rn} {k : Nat} (hk : k < xs.length) : pagesOf (giveX xs k) = pagesOf (xs.take k) ++ (List.replicate (xs.getD k r0).n 0 ++ pagesOf (xs.drop (k + 1))) := by
  unfold giveX giveR
  rcases dn_cases xs hk with ⟨d, _⟩ | ⟨d, hk0, ed, d2⟩ <;> rcases up_cases xs k with ⟨u, _⟩ | ⟨u, hk1, eu, u2⟩ <;> simp only [d, u, if_true, if_false, Bool.false_eq_true, Nat.add_zero]
  · rw [pages_app, pages_cons]; rfl
  · rw [eu, pages_app, pages_cons, pages_cons, ← List.append_assoc (List.replicate _ 0)]
    unfold valR
    rw [u2]
    simp only [Bool.false_eq_true, if_false]
    rw [rep_app]
  · rw [ed, pages_app, pages_app, pages_cons, pages_cons]
    unfold valR
    rw [d2]
    simp only [Bool.false_eq_true, if_false, pagesOf, List.flatMap_nil, List.append_nil, List.append_assoc]
    rw [← List.append_assoc (List.replicate _ 0) (List.replicate _ 0), rep_app, Nat.add_comm]
  · rw [ed, eu, pages_app, pages_app, pages_cons, pages_cons, pages_cons]
    unfold valR
    rw [d2, u2]
    simp only [Bool.false_eq_true, if_false, pagesOf, List.flatMap_nil, List.append_nil, List.append_assoc]
    rw [← List.append_assoc (List.replicate (xs.getD k r0).n 0) (List.replicate _ 0), rep_app, ← List.append_assoc (List.replicate _ 0) (List.replicate _ 0), rep_app]
    congr 3
    omega
theorem pages_all {P : Nat} {xs : List Rn} (h : OkS P xs) : (pagesOf xs).length = P := by have := pages_len _ h.ch; omega
theorem pages_pre {P : Nat} {xs : List Rn} (h : OkS P xs) {k : Nat} (hk : k < xs.length) : (pagesOf (xs.take k)).length = (xs.getD k r0).p ∧ pagesOf xs = pagesOf (xs.take k) ++ (List.replicate (xs.getD k r0).n (valR (xs.getD k r0)) ++ pagesOf (xs.drop (k + 1))) := by
  have hc := h.ch
  rw [split_at hk] at hc
  obtain ⟨_, _, _, c1, _⟩ := chain_in hc
  have := pages_len _ c1
  refine ⟨by omega, ?_⟩
  conv => lhs; rw [split_at hk]
  rw [pages_app, pages_cons]
/-- A page's value is that of its run. -/
theorem pages_at {P : Nat} {xs : List Rn} (h : OkS P xs) {k i : Nat} (hk : k < xs.length) (h1 : (xs.getD k r0).p ≤ i) (h2 : i < (xs.getD k r0).p + (xs.getD k r0).n) : (pagesOf xs)[i]? = some (valR (xs.getD k r0)) := by
  obtain ⟨e1, e2⟩ := pages_pre h hk
  rw [e2, List.getElem?_append_right (by omega), List.getElem?_append_left (by rw [List.length_replicate]; omega), List.getElem?_replicate, if_pos (by omega)]
theorem lay_mid {A B C D : List Int} (h : B.length = C.length) : lay (A ++ (B ++ D)) A.length C = A ++ (C ++ D) := by
  unfold lay
  rw [List.take_left, ← h, List.drop_append, List.drop_of_length_le (by omega), List.nil_append, show A.length + B.length - A.length = B.length by omega, List.drop_left, List.append_assoc]
theorem pages_give {P : Nat} {xs : List Rn} (h : OkS P xs) {k : Nat} (hk : k < xs.length) : pagesOf (giveX xs k) = lay (pagesOf xs) (xs.getD k r0).p (List.replicate (xs.getD k r0).n 0) := by
  obtain ⟨e1, e2⟩ := pages_pre h hk
  rw [pages_give0 hk, e2, ← e1, lay_mid (by simp)]
theorem pages_takeX {P : Nat} {xs : List Rn} (h : OkS P xs) {n a : Int} {k : Nat} (hb : bestA n a xs = some k) :
    pagesOf (takeX xs k n.toNat (firstR (xs.getD k r0) a.toNat)) = lay (pagesOf xs) (firstR (xs.getD k r0) a.toNat) (List.replicate n.toNat ((firstR (xs.getD k r0) a.toNat + 1 : Nat) : Int)) := by
  obtain ⟨hk, hn, ha, ht, h1, h2, h3⟩ := best_facts h hb
  refine List.ext_getElem? fun i => ?_
  rw [pages_take h hb, lay_get? _ _ _ _ (by rw [List.length_replicate, pages_all h]; omega), List.length_replicate]
  by_cases i1 : i < firstR (xs.getD k r0) a.toNat
  · rw [if_neg (by omega), if_pos i1]
  · by_cases i2 : i < firstR (xs.getD k r0) a.toNat + n.toNat
    · rw [if_pos ⟨by omega, i2⟩, if_neg i1, if_pos i2, List.getElem?_replicate, if_pos (by omega)]
    · rw [if_neg (by omega), if_neg i1, if_neg i2]
/-- A neighbour's value is another one. -/
theorem val_ne {P : Nat} {xs : List Rn} (h : OkS P xs) {k : Nat} (hk : k + 1 < xs.length) : valR (xs.getD (k + 1) r0) ≠ valR (xs.getD k r0) := by
  have hg := h.gp
  rw [split_at (show k < xs.length by omega), show xs.drop (k + 1) = xs.getD (k + 1) r0 :: xs.drop (k + 2) by rw [getD_at hk]; exact List.drop_eq_getElem_cons hk] at hg
  have h1 := ((gaps_app _ _).1 hg).2.1.1
  have h2 := mono_p h (show k < k + 1 by omega) hk
  have h3 := pos_n h (show k < xs.length by omega)
  unfold valR
  clear hg
  generalize xs.getD k r0 = r at *
  generalize xs.getD (k + 1) r0 = s at *
  cases e1 : r.t <;> cases e2 : s.t
  · rw [e1, e2] at h1
    rcases h1 with h1 | h1 <;> cases h1
  · simp; omega
  · simp; omega
  · simp; omega
end Go.Proofs.Ytldlogmjkbhomaa.Spa
