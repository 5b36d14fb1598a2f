/- Plain words for SpansBack: the pages where taken runs begin; each given back, one free run is left. -/
import Derived.Test.YtldlogmjkbhomaaSpaQ
import Derived.Test.YtldlogmjkbhomaaAidRun
set_option linter.unusedSimpArgs false
namespace Go.Proofs.Ytldlogmjkbhomaa.Spa
open Go.RowKit Go.Proofs.Ytldlogmjkbhomaa.Aid
def tk (xs : List Rn) : List Int := (xs.filter fun r => r.t).map fun r => ((r.p : Nat) : Int)
theorem tk_app (A B : List Rn) : tk (A ++ B) = tk A ++ tk B := by unfold tk; rw [List.filter_append, List.map_append]
theorem tk_one (r : Rn) (B : List Rn) : tk (r :: B) = (if r.t = true then [((r.p : Nat) : Int)] else []) ++ tk B := by
  unfold tk
  rw [List.filter_cons]
  cases r.t <;> simp
theorem tk_step {xs : List Rn} {k : Nat} (hk : k < xs.length) : tk (xs.take (k + 1)) = tk (xs.take k) ++ (if (xs.getD k r0).t = true then [(((xs.getD k r0).p : Nat) : Int)] else []) := by
  rw [List.take_succ_eq_append_getElem hk, tk_app, tk_one, getD_at hk]
  simp [tk]
theorem tk_len (xs : List Rn) : (tk xs).length ≤ xs.length := by
  unfold tk
  rw [List.length_map]
  exact List.length_filter_le _ _
theorem tk_give {xs : List Rn} {page : Int} {k : Nat} (h : findT xs page = some k) : tk xs = tk (xs.take k) ++ page :: tk (xs.drop (k + 1)) ∧ tk (giveX xs k) = tk (xs.take k) ++ tk (xs.drop (k + 1)) := by
  obtain ⟨hk, ht, hp⟩ := findT_some h
  refine ⟨?_, ?_⟩
  · conv => lhs; rw [split_at hk]
    rw [tk_app, tk_one, if_pos ht, hp]
    rfl
  · unfold giveX
    rw [tk_app, tk_one]
    have e1 : tk (xs.take (if dnR xs k = true then k - 1 else k)) = tk (xs.take k) := by
      rcases dn_cases xs hk with ⟨d, _⟩ | ⟨d, _, ed, df⟩
      · rw [d]; rfl
      · rw [d, if_pos rfl, ed, tk_app, tk_one, df]; simp [tk]
    have e2 : tk (xs.drop (if upR xs k = true then k + 2 else k + 1)) = tk (xs.drop (k + 1)) := by
      rcases up_cases xs k with ⟨d, _⟩ | ⟨d, _, ed, df⟩
      · rw [d]; rfl
      · rw [d, if_pos rfl, ed, tk_one, df]; simp
    rw [e1, e2]
    simp [giveR]
theorem tk_mem {xs : List Rn} {page : Int} (h : page ∈ tk xs) : ∃ k, findT xs page = some k := by
  cases hf : findT xs page with
  | some k => exact ⟨k, rfl⟩
  | none =>
    exfalso
    unfold tk at h
    obtain ⟨r, hr, rfl⟩ := List.mem_map.1 h
    obtain ⟨hm, ht⟩ := List.mem_filter.1 hr
    obtain ⟨k, hk⟩ := List.mem_iff_getElem?.1 hm
    have hl := (List.getElem?_eq_some_iff.1 hk).1
    have := List.find?_eq_none.1 hf k (List.mem_range.2 hl)
    have e : xs.getD k r0 = r := by rw [List.getD_eq_getElem?_getD, hk]; rfl
    rw [e] at this
    exact this (by simp [ht])
theorem give_mem {xs : List Rn} {page : Int} {rest : List Int} (h : (page :: rest).Perm (tk xs)) : giveE page xs = 0 ∧ rest.Perm (tk (giveS page xs)) := by
  obtain ⟨k, hk⟩ := tk_mem (h.subset (List.mem_cons_self ..))
  obtain ⟨e1, e2⟩ := tk_give hk
  unfold giveE giveS
  rw [hk]
  refine ⟨rfl, ?_⟩
  show rest.Perm (tk (giveX xs k))
  rw [e1] at h
  rw [e2]
  exact (h.trans List.perm_middle).cons_inv
theorem give_okS {P : Nat} {xs : List Rn} (h : OkS P xs) (page : Int) : OkS P (giveS page xs) := by
  unfold giveS
  cases hf : findT xs page with
  | none => exact h
  | some k => exact give_ok h (findT_some hf).1
theorem all_free {P : Nat} {xs : List Rn} (h : OkS P xs) (ht : tk xs = []) : (P = 0 ∧ xs = []) ∨ (P ≠ 0 ∧ xs = [⟨0, P, false⟩]) := by
  have hc := h.ch
  have hg := h.gp
  cases xs with
  | nil => exact .inl ⟨hc.symm, rfl⟩
  | cons r B =>
    right
    rw [tk_one] at ht
    have hr : r.t = false := by
      cases hr : r.t
      · rfl
      · rw [hr] at ht; simp at ht
    rw [hr] at ht
    simp at ht
    obtain ⟨c1, c2, c3⟩ := hc
    cases B with
    | nil =>
      have c3 : 0 + r.n = P := c3
      refine ⟨by omega, ?_⟩
      obtain ⟨p, n, t⟩ := r
      dsimp only at *
      rw [c1, hr, show n = P by omega]
    | cons s C =>
      exfalso
      rw [tk_one] at ht
      have hs : s.t = false := by
        cases hs : s.t
        · rfl
        · rw [hs] at ht; simp at ht
      rcases hg.1 with e | e
      · rw [hr] at e; cases e
      · rw [hs] at e; cases e
/-- append of all elements of a slice of numbers to a slice of the call's own, as a run. -/
theorem append_own_run {P : Program} {W : World} (t ty : TypeId) (base : Nat) (e : TypeId) (q : IntKind) (bytes : Nat) (ht : P.underlying t = some (.slice e))
    (hinfo : (P.info? e).map (fun i => (i.zero, i.size, i.bytes)) = some (some (.int q 0), 1, bytes)) (v : Value) (xs : List Int) (hown : Own W base e q v xs) (hv : v ≠ .slice none 0 0) (ys : List Int) (ad : Addr) (c : Nat)
    (hsrc : Ints W q (some ad) ys) (h63 : xs.length + ys.length ≤ 140737488355328) (hl : (xs.length + ys.length) * bytes ≤ 140737488355328) (hbase : base ≤ W.heap.size) :
    ∃ v' w', (Builtin.append_ #[t, t] ty #[v, .slice (some ad) ys.length c]).run P W = .ok v' w' ∧ Own w' base e q v' (xs ++ ys) ∧ Below base W w' ∧ v' ≠ .slice none 0 0 := by
  obtain ⟨i0, hi, hz0, hz1, hz2⟩ := info_parts hinfo
  obtain ⟨v', w', hrun, h1, h2, h3⟩ := run_append_own (P := P) W base t ty e i0 (.int q 0) 1 bytes ht hi hz0 hz1 hz2 rfl (by decide) v xs.length _ hown ad ys.length c (ys.map (Value.int q)) (by simp) (by
    intro j u hj
    have hj' : j < ys.length := by
      have := (List.getElem?_eq_some_iff.1 hj).1
      simpa using this
    obtain ⟨b, o', e', hlt, h1⟩ := hsrc j hj'
    cases e'
    rw [Go.WideShapes.add_plain, h1]
    simp [hj'] at hj
    simp [hj', ← hj]) (by
    intro u hu
    simp at hu
    obtain ⟨y, _, rfl⟩ := hu
    rfl) (by unfold maxLen; omega) hl hbase
  exact ⟨v', w', hrun, by unfold Own; simpa using h1, (Below.refl base W).grown h2 hbase (fun k hk => (hown.base_le k hk).1), fun e => hv (h3.1 e).1⟩
theorem ints_drop {W : World} {q : IntKind} {g : Nat} {xs : List Int} (h : Ints W q (some ⟨g, 0, none⟩) xs) (k : Nat) : Ints W q (some ⟨g, k, none⟩) (xs.drop k) := fun j hj => by
  rw [List.length_drop] at hj
  obtain ⟨b, o, e, h1, h2⟩ := h (k + j) (by omega)
  injection e with e
  injection e with e1 e2 _
  subst e1 e2
  refine ⟨_, _, rfl, h1, ?_⟩
  rw [show xs.drop k = xs.drop k from rfl]
  rw [Nat.zero_add] at h2
  rw [h2]
  simp [List.getD_eq_getElem?_getD]
theorem ints_take {W : World} {q : IntKind} {A : Option Addr} {xs : List Int} (h : Ints W q A xs) (k : Nat) : Ints W q A (xs.take k) := fun j hj => by
  rw [List.length_take] at hj
  obtain ⟨b, o, e, h1, h2⟩ := h j (by omega)
  refine ⟨b, o, e, h1, ?_⟩
  rw [h2]
  simp [List.getD_eq_getElem?_getD, List.getElem?_take, show j < k by omega]
end Go.Proofs.Ytldlogmjkbhomaa.Spa
