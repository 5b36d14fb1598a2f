/- Plain words for SpansApart: what is taken, page by page, as a map; how it goes on when pages are taken or given back; and the runs in order. -/
import Derived.Test.YtldlogmjkbhomaaSpaG
import Derived.Test.YtldlogmjkbhomaaAidMap
set_option linter.unusedSimpArgs false
namespace Go.Proofs.Ytldlogmjkbhomaa.Spa
open Go.RowKit Go.Proofs.Ytldlogmjkbhomaa.Aid
def tf (xs : List Rn) : List Rn := xs.filter fun r => r.t
theorem tk_tf (xs : List Rn) : tk xs = (tf xs).map fun r => ((r.p : Nat) : Int) := rfl
theorem tf_app (A B : List Rn) : tf (A ++ B) = tf A ++ tf B := by unfold tf; rw [List.filter_append]
theorem tf_one (r : Rn) (B : List Rn) : tf (r :: B) = (if r.t = true then [r] else []) ++ tf B := by
  unfold tf
  rw [List.filter_cons]
  cases r.t <;> simp
theorem tf_mem {xs : List Rn} {r : Rn} : r ∈ tf xs ↔ r ∈ xs ∧ r.t = true := by unfold tf; rw [List.mem_filter]
theorem tf_at {xs : List Rn} {k : Nat} (hk : k < xs.length) : tf xs = tf (xs.take k) ++ ((if (xs.getD k r0).t = true then [xs.getD k r0] else []) ++ tf (xs.drop (k + 1))) := by
  conv => lhs; rw [split_at hk]
  rw [tf_app, tf_one]
theorem tf_give {xs : List Rn} {k : Nat} (hk : k < xs.length) : tf (giveX xs k) = tf (xs.take k) ++ tf (xs.drop (k + 1)) := by
  unfold giveX
  rw [tf_app, tf_one]
  have e1 : tf (xs.take (if dnR xs k = true then k - 1 else k)) = tf (xs.take k) := by
    rcases dn_cases xs hk with ⟨d, _⟩ | ⟨d, _, ed, df⟩
    · rw [d]; rfl
    · rw [d, if_pos rfl, ed, tf_app, tf_one, df]; simp [tf]
  have e2 : tf (xs.drop (if upR xs k = true then k + 2 else k + 1)) = tf (xs.drop (k + 1)) := by
    rcases up_cases xs k with ⟨d, _⟩ | ⟨d, _, ed, df⟩
    · rw [d]; rfl
    · rw [d, if_pos rfl, ed, tf_one, df]; simp
  rw [e1, e2]
  simp [giveR]
theorem tf_take (xs : List Rn) (k : Nat) {n at_ : Nat} (hn : 1 ≤ n) : tf (takeX xs k n at_) = tf (xs.take k) ++ (⟨at_, n, true⟩ :: tf (xs.drop (k + 1))) := by
  unfold takeX
  rw [tf_app, tf_app, full_parts hn, tf_app, tf_one]
  have e1 : ∀ (c : Prop) [Decidable c] (r : Rn), r.t = false → tf (if c then [] else [r]) = [] := fun c _ r hr => by
    split
    · rfl
    · rw [tf_one, hr]; rfl
  rw [e1 _ _ rfl, e1 _ _ rfl]
  simp
def gm (xs : List Rn) (y : Int) : Option Int := (findT xs y).map fun k => (((xs.getD k r0).n : Nat) : Int)
theorem gm_iff {P : Nat} {xs : List Rn} (h : OkS P xs) (y v : Int) : gm xs y = some v ↔ ∃ r, r ∈ tf xs ∧ ((r.p : Nat) : Int) = y ∧ ((r.n : Nat) : Int) = v := by
  constructor
  · intro hg
    unfold gm at hg
    cases hf : findT xs y with
    | none => rw [hf] at hg; cases hg
    | some k =>
      rw [hf] at hg
      obtain ⟨h1, h2, h3⟩ := findT_some hf
      injection hg with hg
      refine ⟨xs.getD k r0, tf_mem.2 ⟨?_, h2⟩, h3, hg⟩
      rw [getD_at h1]
      exact List.getElem_mem h1
  · rintro ⟨r, hr, hp, hn⟩
    obtain ⟨hm, ht⟩ := tf_mem.1 hr
    obtain ⟨k, hk⟩ := List.mem_iff_getElem?.1 hm
    have hl := (List.getElem?_eq_some_iff.1 hk).1
    have e : xs.getD k r0 = r := by rw [List.getD_eq_getElem?_getD, hk]; rfl
    have hpn := pos_n h hl
    have hf := findT_at h (k := k) (i := r.p) hl (by rw [e]; exact Nat.le_refl _) (by rw [e] at hpn ⊢; omega)
    rw [e, if_pos ⟨ht, rfl⟩] at hf
    unfold gm
    rw [← hp, hf]
    exact congrArg some (show (((xs.getD k r0).n : Nat) : Int) = v by rw [e]; exact hn)
theorem gm_get {P : Nat} {xs : List Rn} (h : OkS P xs) {k : Nat} (hk : k < xs.length) (ht : (xs.getD k r0).t = true) : gm xs (((xs.getD k r0).p : Nat) : Int) = some (((xs.getD k r0).n : Nat) : Int) :=
  (gm_iff h _ _).2 ⟨_, tf_mem.2 ⟨by rw [getD_at hk]; exact List.getElem_mem hk, ht⟩, rfl, rfl⟩
/-- The pages of the runs ahead and behind. -/
theorem out_of {P : Nat} {xs : List Rn} (h : OkS P xs) {k : Nat} (hk : k < xs.length) {r : Rn} (hr : r ∈ tf (xs.take k) ∨ r ∈ tf (xs.drop (k + 1))) : 1 ≤ r.n ∧ (r.p + r.n ≤ (xs.getD k r0).p ∨ (xs.getD k r0).p + (xs.getD k r0).n ≤ r.p) := by
  rcases hr with hr | hr
  · obtain ⟨hm, _⟩ := tf_mem.1 hr
    obtain ⟨j, hj⟩ := List.mem_iff_getElem?.1 hm
    have hl := (List.getElem?_eq_some_iff.1 hj).1
    rw [List.length_take] at hl
    rw [List.getElem?_take, if_pos (by omega)] at hj
    have e : xs.getD j r0 = r := by rw [List.getD_eq_getElem?_getD, hj]; rfl
    have h1 := mono_p h (i := j) (j := k) (by omega) hk
    have h2 := pos_n h (k := j) (by omega)
    rw [e] at h1 h2
    exact ⟨h2.1, .inl h1⟩
  · obtain ⟨hm, _⟩ := tf_mem.1 hr
    obtain ⟨j, hj⟩ := List.mem_iff_getElem?.1 hm
    have hl := (List.getElem?_eq_some_iff.1 hj).1
    rw [List.length_drop] at hl
    rw [List.getElem?_drop] at hj
    have e : xs.getD (k + 1 + j) r0 = r := by rw [List.getD_eq_getElem?_getD, hj]; rfl
    have h1 := mono_p h (i := k) (j := k + 1 + j) (by omega) (by omega)
    have h2 := pos_n h (k := k + 1 + j) (by omega)
    rw [e] at h1 h2
    exact ⟨h2.1, .inr h1⟩
theorem gm_give {P : Nat} {xs : List Rn} (h : OkS P xs) {page : Int} {k : Nat} (hf : findT xs page = some k) (y : Int) : gm (giveX xs k) y = upd (gm xs) page none y := by
  obtain ⟨hk, ht, hp⟩ := findT_some hf
  have hpn := pos_n h hk
  apply Option.ext
  intro v
  rw [gm_iff (give_ok h hk), tf_give hk]
  unfold upd
  by_cases hy : y = page
  · rw [if_pos hy]
    constructor
    · rintro ⟨r, hr, h1, _⟩
      have := out_of h hk (List.mem_append.1 hr)
      omega
    · intro e; cases e
  · rw [if_neg hy, gm_iff h, tf_at hk, if_pos ht]
    constructor
    · rintro ⟨r, hr, h1⟩
      refine ⟨r, ?_, h1⟩
      simp only [List.mem_append, List.mem_singleton] at hr ⊢
      rcases hr with e | e
      · exact .inl e
      · exact .inr (.inr e)
    · rintro ⟨r, hr, h1⟩
      refine ⟨r, ?_, h1⟩
      simp only [List.mem_append, List.mem_singleton] at hr ⊢
      rcases hr with e | e | e
      · exact .inl e
      · subst e; omega
      · exact .inr e
theorem gm_take {P : Nat} {xs : List Rn} (h : OkS P xs) {n a : Int} {k : Nat} (hb : bestA n a xs = some k) (y : Int) :
    gm (takeS n a xs) y = upd (gm xs) (takeAt n a xs) (some n) y ∧ gm xs (takeAt n a xs) = none := by
  have hok := take_ok h n a
  obtain ⟨hk, hn, ha, ht, h1, h2, h3⟩ := best_facts h hb
  have e1 : takeAt n a xs = ((firstR (xs.getD k r0) a.toNat : Nat) : Int) := by unfold takeAt; rw [hb]
  have e2 : takeS n a xs = takeX xs k n.toNat (firstR (xs.getD k r0) a.toNat) := by unfold takeS; rw [hb]
  have hnone : gm xs (takeAt n a xs) = none := by
    rw [e1]
    unfold gm
    rw [findT_at h hk h1 (by omega), if_neg (by rw [ht]; simp)]
    rfl
  refine ⟨?_, hnone⟩
  rw [e2] at hok ⊢
  apply Option.ext
  intro v
  rw [gm_iff hok, tf_take xs k (by omega)]
  unfold upd
  rw [e1]
  have hout := fun (r : Rn) => out_of h hk (r := r)
  have htf := tf_at hk
  rw [ht, if_neg (by simp), List.nil_append] at htf
  generalize xs.getD k r0 = R at *
  generalize firstR R a.toNat = at_ at *
  by_cases hy : y = (at_ : Int)
  · rw [if_pos hy]
    constructor
    · rintro ⟨r, hr, h4, h5⟩
      simp only [List.mem_append, List.mem_cons] at hr
      rcases hr with e | e | e
      · have := hout r (.inl e); omega
      · subst e
        dsimp only at h5
        rw [show n = v by omega]
      · have := hout r (.inr e); omega
    · intro e
      injection e with e
      exact ⟨⟨at_, n.toNat, true⟩, by simp, by rw [hy], by dsimp only; omega⟩
  · rw [if_neg hy, gm_iff h, htf]
    constructor
    · rintro ⟨r, hr, h4⟩
      refine ⟨r, ?_, h4⟩
      simp only [List.mem_append, List.mem_cons] at hr ⊢
      rcases hr with e | e | e
      · exact .inl e
      · subst e
        exact absurd h4.1.symm hy
      · exact .inr e
    · rintro ⟨r, hr, h4⟩
      refine ⟨r, ?_, h4⟩
      simp only [List.mem_append, List.mem_cons] at hr ⊢
      rcases hr with e | e
      · exact .inl e
      · exact .inr (.inr e)
theorem len_give {xs : List Rn} {page : Int} {k : Nat} (hf : findT xs page = some k) : (tk xs).length = (tk (giveX xs k)).length + 1 := by
  obtain ⟨e1, e2⟩ := tk_give hf
  rw [e1, e2]
  simp
  omega
theorem len_take {P : Nat} {xs : List Rn} (h : OkS P xs) {n a : Int} {k : Nat} (hb : bestA n a xs = some k) : (tk (takeS n a xs)).length = (tk xs).length + 1 := by
  obtain ⟨hk, hn, ha, ht, h1, h2, h3⟩ := best_facts h hb
  have e2 : takeS n a xs = takeX xs k n.toNat (firstR (xs.getD k r0) a.toNat) := by unfold takeS; rw [hb]
  rw [e2, tk_tf, tk_tf, tf_take xs k (by omega), tf_at hk, ht]
  simp
  omega
theorem giveE_some {xs : List Rn} {page : Int} {k : Nat} (hf : findT xs page = some k) : giveE page xs = 0 ∧ giveN page xs = (((xs.getD k r0).n : Nat) : Int) ∧ giveS page xs = giveX xs k := by
  unfold giveE giveN giveS
  rw [hf]
  exact ⟨rfl, rfl, rfl⟩
theorem giveE_none {xs : List Rn} {page : Int} (hf : findT xs page = none) : giveE page xs = 12 ∧ giveN page xs = 0 ∧ giveS page xs = xs := by
  unfold giveE giveN giveS
  rw [hf]
  exact ⟨rfl, rfl, rfl⟩
theorem next_p {P : Nat} {xs : List Rn} (h : OkS P xs) {k : Nat} (hk : k < xs.length) : (k + 1 < xs.length → (xs.getD k r0).p + (xs.getD k r0).n = (xs.getD (k + 1) r0).p) ∧ (k + 1 = xs.length → (xs.getD k r0).p + (xs.getD k r0).n = P) := by
  have hc := h.ch
  rw [split_at hk] at hc
  obtain ⟨_, _, _, _, c2⟩ := chain_in hc
  refine ⟨fun h1 => ?_, fun h1 => ?_⟩
  · have e : xs.drop (k + 1) = xs.getD (k + 1) r0 :: xs.drop (k + 1 + 1) := by
      rw [getD_at h1]
      exact List.drop_eq_getElem_cons h1
    rw [e] at c2
    exact c2.1.symm
  · rw [List.drop_of_length_le (by omega)] at c2
    exact c2
theorem zero_p {P : Nat} {xs : List Rn} (h : OkS P xs) : (0 < xs.length → (xs.getD 0 r0).p = 0) ∧ (0 = xs.length → P = 0) := by
  have hc := h.ch
  cases xs with
  | nil => exact ⟨fun h => by simp at h, fun _ => hc.symm⟩
  | cons r B => exact ⟨fun _ => hc.1, fun h => by simp at h⟩
theorem gaps_at {P : Nat} {xs : List Rn} (h : OkS P xs) {k : Nat} (hk : k + 1 < xs.length) : (xs.getD k r0).t = true ∨ (xs.getD (k + 1) r0).t = true := by
  have hg := h.gp
  rw [← List.take_append_drop (k + 1) xs] at hg
  obtain ⟨_, _, h3⟩ := (gaps_app _ _).1 hg
  refine h3 _ _ ?_ ?_
  · rw [List.take_succ_eq_append_getElem (show k < xs.length by omega), List.getLast?_append, getD_at (show k < xs.length by omega)]
    simp
  · rw [List.drop_eq_getElem_cons hk, getD_at hk]
    rfl
theorem takeE_some {xs : List Rn} {n a : Int} {k : Nat} (hb : bestA n a xs = some k) : takeE n a xs = 0 ∧ isPow a = true ∧ a ≤ 4096 ∧ takeAt n a xs % a = 0 ∧ 0 ≤ takeAt n a xs := by
  have hr : rightR n a = true := by
    unfold bestA at hb
    split at hb
    · assumption
    · cases hb
  have e1 : takeAt n a xs = ((firstR (xs.getD k r0) a.toNat : Nat) : Int) := by unfold takeAt; rw [hb]
  have h2 := hr
  unfold rightR at h2
  simp only [Bool.and_eq_true, decide_eq_true_eq] at h2
  have h3 := (isPow_bounds h2.2.1).1
  refine ⟨by unfold takeE; rw [if_pos hr, hb], h2.2.1, h2.2.2, ?_, by omega⟩
  rw [e1]
  have h4 := first_dvd (xs.getD k r0) a.toNat
  have h5 : ((a.toNat : Nat) : Int) = a := by omega
  have h6 : (((firstR (xs.getD k r0) a.toNat) % a.toNat : Nat) : Int) = 0 := by rw [h4]; rfl
  rw [Int.natCast_emod, h5] at h6
  exact h6
theorem takeE_none {xs : List Rn} {n a : Int} (hb : bestA n a xs = none) : ((takeE n a xs) == 0) = false ∧ takeE n a xs ≠ 0 ∧ takeS n a xs = xs := by
  unfold takeE takeS
  rw [hb]
  refine ⟨?_, ?_, rfl⟩
  · split <;> rfl
  · split <;> decide
end Go.Proofs.Ytldlogmjkbhomaa.Spa
