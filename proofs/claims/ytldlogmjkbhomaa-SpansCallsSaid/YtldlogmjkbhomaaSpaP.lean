/- Plain words on runs of pages: which runs there may be, where pages are taken, and what is left when they are taken or given back. No function of the program is walked here. -/
import Derived.Test.YtldlogmjkbhomaaAidI64
namespace Go.Proofs.Ytldlogmjkbhomaa.Spa
open Go.RowKit Go.Proofs.Ytldlogmjkbhomaa.Aid
/-- Pages side by side. -/
structure Rn where
  p : Nat
  n : Nat
  t : Bool
def chain : Nat → List Rn → Nat → Prop
  | a, [], b => a = b
  | a, r :: rs, b => r.p = a ∧ 1 ≤ r.n ∧ chain (a + r.n) rs b
def gaps : List Rn → Prop
  | [] => True
  | [_] => True
  | r :: s :: t => (r.t = true ∨ s.t = true) ∧ gaps (s :: t)
structure OkS (P : Nat) (xs : List Rn) : Prop where
  n : P ≤ 4096
  ch : chain 0 xs P
  gp : gaps xs
theorem chain_app : ∀ (A B : List Rn) (a b : Nat), chain a (A ++ B) b ↔ ∃ m, chain a A m ∧ chain m B b
  | [], B, a, b => ⟨fun h => ⟨a, rfl, h⟩, fun ⟨m, h1, h2⟩ => by cases h1; exact h2⟩
  | r :: A, B, a, b => by
    simp only [List.cons_append, chain, chain_app A B]
    constructor
    · rintro ⟨h1, h2, m, h3, h4⟩; exact ⟨m, ⟨h1, h2, h3⟩, h4⟩
    · rintro ⟨m, ⟨h1, h2, h3⟩, h4⟩; exact ⟨h1, h2, m, h3, h4⟩
theorem chain_le : ∀ (xs : List Rn) {a b : Nat}, chain a xs b → a + xs.length ≤ b
  | [], a, b, h => by cases h; simp
  | r :: rs, a, b, h => by
    have := chain_le rs h.2.2
    have := h.2.1
    simp only [List.length_cons]; omega
theorem chain_in {A B : List Rn} {r : Rn} {a b : Nat} (h : chain a (A ++ r :: B) b) : a + A.length ≤ r.p ∧ 1 ≤ r.n ∧ r.p + r.n + B.length ≤ b ∧ chain a A r.p ∧ chain (r.p + r.n) B b := by
  obtain ⟨m, h1, h2, h3, h4⟩ := (chain_app A _ a b).1 h
  subst h2
  have := chain_le A h1
  have := chain_le B h4
  exact ⟨by omega, h3, by omega, h1, h4⟩
theorem gaps_cons {r : Rn} {xs : List Rn} (h : gaps (r :: xs)) : gaps xs := by
  cases xs with
  | nil => trivial
  | cons s t => exact h.2
theorem gaps_app : ∀ (A B : List Rn), gaps (A ++ B) ↔ gaps A ∧ gaps B ∧ ∀ r s, A.getLast? = some r → B.head? = some s → r.t = true ∨ s.t = true
  | [], B => by simp [gaps]
  | [r], [] => by simp [gaps]
  | [r], s :: B => by
    simp only [List.cons_append, List.nil_append, gaps]
    constructor
    · rintro ⟨h1, h2⟩
      exact ⟨trivial, h2, fun r' s' e1 e2 => by simp at e1 e2; subst e1; subst e2; exact h1⟩
    · rintro ⟨_, h2, h3⟩
      exact ⟨h3 r s rfl rfl, h2⟩
  | r :: s :: A, B => by
    have ih := gaps_app (s :: A) B
    simp only [List.cons_append, gaps] at ih ⊢
    rw [ih]
    constructor
    · rintro ⟨h1, h2, h3, h4⟩
      exact ⟨⟨h1, h2⟩, h3, fun r' s' e1 e2 => h4 r' s' (by rw [List.getLast?_cons_cons] at e1; exact e1) e2⟩
    · rintro ⟨⟨h1, h2⟩, h3, h4⟩
      exact ⟨h1, h2, h3, fun r' s' e1 e2 => h4 r' s' (by rw [List.getLast?_cons_cons]; exact e1) e2⟩
def r0 : Rn := ⟨0, 0, false⟩
/-- The least page of a run that is a multiple. -/
def firstR (r : Rn) (a : Nat) : Nat := (r.p + a - 1) / a * a
theorem first_ge {r : Rn} {a : Nat} (ha : 1 ≤ a) : r.p ≤ firstR r a ∧ firstR r a ≤ r.p + a - 1 := by
  unfold firstR
  have h1 := Nat.div_add_mod (r.p + a - 1) a
  have h2 := Nat.mod_lt (r.p + a - 1) (show a > 0 by omega)
  rw [Nat.mul_comm] at h1
  generalize (r.p + a - 1) / a * a = x at h1
  omega
theorem first_dvd (r : Rn) (a : Nat) : firstR r a % a = 0 := by unfold firstR; exact Nat.mul_mod_left _ _
/-- Has a free run so many pages, from a multiple on? -/
def holdsR (n : Int) (a : Nat) (r : Rn) : Bool := !r.t && decide (n ≤ ((r.p + r.n : Nat) : Int) - ((firstR r a : Nat) : Int))
def beats (r : Rn) : Option Rn → Bool
  | none => true
  | some s => decide (r.n < s.n)
/-- The run in which pages would be taken, of the first k. -/
def bestT (n : Int) (a : Nat) (xs : List Rn) : Nat → Option Nat
  | 0 => none
  | k + 1 => if holdsR n a (xs.getD k r0) && beats (xs.getD k r0) ((bestT n a xs k).map fun j => xs.getD j r0) then some k else bestT n a xs k
theorem bestT_in {n : Int} {a : Nat} {xs : List Rn} : ∀ {k j : Nat}, bestT n a xs k = some j → j < k ∧ holdsR n a (xs.getD j r0) = true
  | 0, _, h => by cases h
  | k + 1, j, h => by
    unfold bestT at h
    split at h
    · next hc =>
      injection h with h
      subst h
      rw [Bool.and_eq_true] at hc
      exact ⟨by omega, hc.1⟩
    · have := bestT_in h
      exact ⟨by omega, this.2⟩
theorem bestT_none {n : Int} {a : Nat} {xs : List Rn} : ∀ {k : Nat}, bestT n a xs k = none → ∀ j, j < k → holdsR n a (xs.getD j r0) = false
  | 0, _, j, hj => by omega
  | k + 1, h, j, hj => by
    unfold bestT at h
    split at h
    · cases h
    · next hc =>
      rw [h] at hc
      simp only [Option.map_none, beats, Bool.and_true, Bool.not_eq_true] at hc
      rcases Nat.lt_succ_iff_lt_or_eq.1 hj with h1 | h1
      · exact bestT_none h j h1
      · subst h1; exact hc
/-- May so many pages be asked for? -/
def rightR (n a : Int) : Bool := decide (1 ≤ n) && (isPow a && decide (a ≤ 4096))
def parts (r : Rn) (n at_ : Nat) : List Rn := [⟨r.p, at_ - r.p, false⟩, ⟨at_, n, true⟩, ⟨at_ + n, r.p + r.n - at_ - n, false⟩]
def full (l : List Rn) : List Rn := l.filter fun r => r.n != 0
def takeX (xs : List Rn) (k n at_ : Nat) : List Rn := xs.take k ++ full (parts (xs.getD k r0) n at_) ++ xs.drop (k + 1)
def bestA (n a : Int) (xs : List Rn) : Option Nat := if rightR n a = true then bestT n a.toNat xs xs.length else none
def takeAt (n a : Int) (xs : List Rn) : Int := match bestA n a xs with
  | none => -1
  | some k => ((firstR (xs.getD k r0) a.toNat : Nat) : Int)
def takeE (n a : Int) (xs : List Rn) : Int := if rightR n a = true then (match bestA n a xs with | none => 13 | some _ => 0) else 11
def takeS (n a : Int) (xs : List Rn) : List Rn := match bestA n a xs with
  | none => xs
  | some k => takeX xs k n.toNat (firstR (xs.getD k r0) a.toNat)
theorem split_at {xs : List Rn} {k : Nat} (h : k < xs.length) : xs = xs.take k ++ xs.getD k r0 :: xs.drop (k + 1) := by
  rw [List.getD_eq_getElem?_getD, List.getElem?_eq_getElem h]
  simp only [Option.getD_some]
  rw [← List.drop_eq_getElem_cons h, List.take_append_drop]
theorem full_app (A B : List Rn) : full (A ++ B) = full A ++ full B := by unfold full; rw [List.filter_append]
/-- What a taking finds. -/
theorem best_facts {P : Nat} {xs : List Rn} (h : OkS P xs) {n a : Int} {k : Nat} (hb : bestA n a xs = some k) : k < xs.length ∧ 1 ≤ n ∧ 1 ≤ a ∧ (xs.getD k r0).t = false ∧ (xs.getD k r0).p ≤ firstR (xs.getD k r0) a.toNat ∧ firstR (xs.getD k r0) a.toNat + n.toNat ≤ (xs.getD k r0).p + (xs.getD k r0).n ∧ (xs.getD k r0).p + (xs.getD k r0).n ≤ P := by
  unfold bestA at hb
  split at hb
  · next hr =>
    unfold rightR at hr
    simp only [Bool.and_eq_true, decide_eq_true_eq] at hr
    have h1 := bestT_in hb
    have h2 := isPow_bounds hr.2.1
    have h3 := first_ge (r := xs.getD k r0) (a := a.toNat) (by omega)
    have hc := h.ch
    rw [split_at h1.1] at hc
    have h4 := chain_in hc
    have h5 := h1.2
    unfold holdsR at h5
    simp only [Bool.and_eq_true, Bool.not_eq_true', decide_eq_true_eq] at h5
    refine ⟨h1.1, hr.1, h2.1, h5.1, h3.1, by omega, by omega⟩
  · cases hb
theorem full_parts {r : Rn} {n at_ : Nat} (hn : 1 ≤ n) : full (parts r n at_) = (if at_ - r.p = 0 then [] else [⟨r.p, at_ - r.p, false⟩]) ++ ⟨at_, n, true⟩ :: (if r.p + r.n - at_ - n = 0 then [] else [⟨at_ + n, r.p + r.n - at_ - n, false⟩]) := by
  have hn0 : (n != 0) = true := by simp; omega
  unfold full parts
  by_cases h1 : at_ - r.p = 0 <;> by_cases h2 : r.p + r.n - at_ - n = 0 <;> simp [h1, h2, hn0]
theorem parts_chain {r : Rn} {n at_ : Nat} (hn : 1 ≤ n) (h1 : r.p ≤ at_) (h2 : at_ + n ≤ r.p + r.n) : chain r.p (full (parts r n at_)) (r.p + r.n) := by
  rw [full_parts hn]
  by_cases e1 : at_ - r.p = 0 <;> by_cases e2 : r.p + r.n - at_ - n = 0 <;> simp [e1, e2, chain] <;> omega
theorem parts_gaps {r : Rn} {n at_ : Nat} (hn : 1 ≤ n) : gaps (full (parts r n at_)) := by
  rw [full_parts hn]
  by_cases e1 : at_ - r.p = 0 <;> by_cases e2 : r.p + r.n - at_ - n = 0 <;> simp [e1, e2, gaps]
/-- A free run's neighbours are taken. -/
theorem gaps_mid {A B : List Rn} {r : Rn} (h : gaps (A ++ r :: B)) (hr : r.t = false) : gaps A ∧ gaps B ∧ (∀ s, A.getLast? = some s → s.t = true) ∧ ∀ s, B.head? = some s → s.t = true := by
  obtain ⟨h1, h2, h3⟩ := (gaps_app A _).1 h
  obtain ⟨_, h5, h6⟩ := (gaps_app [r] B).1 h2
  refine ⟨h1, h5, fun s hs => ?_, fun s hs => ?_⟩
  · rcases h3 s r hs rfl with e | e
    · exact e
    · rw [hr] at e; cases e
  · rcases h6 r s rfl hs with e | e
    · rw [hr] at e; cases e
    · exact e
theorem take_ok {P : Nat} {xs : List Rn} (h : OkS P xs) (n a : Int) : OkS P (takeS n a xs) := by
  unfold takeS
  cases hb : bestA n a xs with
  | none => exact h
  | some k =>
    obtain ⟨hk, hn, ha, ht, h1, h2, h3⟩ := best_facts h hb
    simp only
    have hx := split_at hk
    have hc := h.ch
    have hg := h.gp
    rw [hx] at hc hg
    unfold takeX
    generalize xs.getD k r0 = r at *
    generalize firstR r a.toNat = at_ at *
    generalize xs.take k = A at *
    generalize xs.drop (k + 1) = B at *
    obtain ⟨_, _, _, c1, c2⟩ := chain_in hc
    obtain ⟨g1, g2, g3, g4⟩ := gaps_mid hg ht
    refine ⟨h.n, ?_, ?_⟩
    · exact (chain_app _ _ _ _).2 ⟨_, (chain_app _ _ _ _).2 ⟨_, c1, parts_chain (by omega) h1 h2⟩, c2⟩
    · refine (gaps_app _ _).2 ⟨(gaps_app _ _).2 ⟨g1, parts_gaps (by omega), fun s s' e1 _ => .inl (g3 s e1)⟩, g2, fun s s' _ e2 => .inr (g4 s' e2)⟩
/-- The pages, one by one: the first page of a span, and 1; 0: free. -/
def valR (r : Rn) : Int := if r.t = true then ((r.p + 1 : Nat) : Int) else 0
def pagesOf (xs : List Rn) : List Int := xs.flatMap fun r => List.replicate r.n (valR r)
theorem pages_app (A B : List Rn) : pagesOf (A ++ B) = pagesOf A ++ pagesOf B := by unfold pagesOf; rw [List.flatMap_append]
theorem pages_cons (r : Rn) (B : List Rn) : pagesOf (r :: B) = List.replicate r.n (valR r) ++ pagesOf B := rfl
theorem pages_len : ∀ (xs : List Rn) {a b : Nat}, chain a xs b → a + (pagesOf xs).length = b
  | [], a, b, h => by cases h; simp [pagesOf]
  | r :: rs, a, b, h => by
    have := pages_len rs h.2.2
    rw [pages_cons, List.length_append, List.length_replicate]
    omega
theorem pages_full : ∀ (l : List Rn), pagesOf (full l) = pagesOf l
  | [] => rfl
  | r :: l => by
    unfold full
    rw [List.filter_cons]
    have ih := pages_full l
    unfold full at ih
    by_cases h : r.n = 0
    · rw [if_neg (by simp [h]), ih, pages_cons, h]; rfl
    · rw [if_pos (by simpa using h), pages_cons, pages_cons, ih]
theorem pages_parts (r : Rn) (n at_ : Nat) : pagesOf (full (parts r n at_)) = List.replicate (at_ - r.p) 0 ++ (List.replicate n ((at_ + 1 : Nat) : Int) ++ List.replicate (r.p + r.n - at_ - n) 0) := by
  rw [pages_full]
  unfold parts
  simp only [pages_cons, valR]
  simp [pagesOf]
/-- Pages turned from one place on. -/
theorem pages_take {P : Nat} {xs : List Rn} (h : OkS P xs) {n a : Int} {k : Nat} (hb : bestA n a xs = some k) (i : Nat) :
    (pagesOf (takeX xs k n.toNat (firstR (xs.getD k r0) a.toNat)))[i]? = if firstR (xs.getD k r0) a.toNat ≤ i ∧ i < firstR (xs.getD k r0) a.toNat + n.toNat then some ((firstR (xs.getD k r0) a.toNat + 1 : Nat) : Int) else (pagesOf xs)[i]? := by
  obtain ⟨hk, hn, ha, ht, h1, h2, h3⟩ := best_facts h hb
  have hx := split_at hk
  have hc := h.ch
  rw [hx] at hc
  obtain ⟨_, _, _, c1, c2⟩ := chain_in hc
  have hl := pages_len _ c1
  have e : pagesOf xs = pagesOf (xs.take k) ++ (List.replicate (xs.getD k r0).n 0 ++ pagesOf (xs.drop (k + 1))) := by
    conv => lhs; rw [hx]
    rw [pages_app, pages_cons]
    unfold valR
    rw [ht]
    rfl
  unfold takeX
  rw [pages_app, pages_app, pages_parts, e]
  generalize xs.getD k r0 = r at *
  generalize firstR r a.toNat = at_ at *
  generalize pagesOf (xs.take k) = A at *
  generalize pagesOf (xs.drop (k + 1)) = B at *
  simp only [List.append_assoc]
  by_cases i1 : i < A.length
  · rw [List.getElem?_append_left i1, List.getElem?_append_left i1, if_neg (by omega)]
  · rw [List.getElem?_append_right (show A.length ≤ i by omega), List.getElem?_append_right (show A.length ≤ i by omega)]
    have hlen : ∀ (m : Nat) (v : Int), (List.replicate m v).length = m := fun m v => List.length_replicate
    by_cases i2 : i - A.length < at_ - r.p
    · rw [List.getElem?_append_left (show i - A.length < (List.replicate (at_ - r.p) (0 : Int)).length by rw [hlen]; exact i2), if_neg (by omega),
        List.getElem?_append_left (show i - A.length < (List.replicate r.n (0 : Int)).length by rw [hlen]; omega), List.getElem?_replicate, List.getElem?_replicate, if_pos i2, if_pos (by omega)]
    · rw [List.getElem?_append_right (show (List.replicate (at_ - r.p) (0 : Int)).length ≤ i - A.length by rw [hlen]; omega), hlen]
      by_cases i3 : i - A.length - (at_ - r.p) < n.toNat
      · rw [List.getElem?_append_left (show _ < (List.replicate n.toNat ((at_ + 1 : Nat) : Int)).length by rw [hlen]; exact i3), if_pos (by omega), List.getElem?_replicate, if_pos i3]
      · rw [List.getElem?_append_right (show (List.replicate n.toNat ((at_ + 1 : Nat) : Int)).length ≤ _ by rw [hlen]; omega), hlen, if_neg (by omega)]
        by_cases i4 : i - A.length < r.n
        · rw [List.getElem?_append_left (show _ < (List.replicate (r.p + r.n - at_ - n.toNat) (0 : Int)).length by rw [hlen]; omega), List.getElem?_append_left (show _ < (List.replicate r.n (0 : Int)).length by rw [hlen]; exact i4), List.getElem?_replicate, List.getElem?_replicate, if_pos (by omega), if_pos i4]
        · rw [List.getElem?_append_right (show (List.replicate (r.p + r.n - at_ - n.toNat) (0 : Int)).length ≤ _ by rw [hlen]; omega), List.getElem?_append_right (show (List.replicate r.n (0 : Int)).length ≤ _ by rw [hlen]; omega), hlen, hlen]
          congr 1
          omega
end Go.Proofs.Ytldlogmjkbhomaa.Spa
