/- Laws at the operations append and copy for slices of one-cell elements, in the form that the walks here use. Nothing of the program stands here. -/
import Derived.Test.YtloflnachpjlgaaAidObj
import Derived.Test.YtloflnachpjlgaaAidRows
import Derived.Laws.CopyOwn
import Derived.Laws.AppendOwnNone
import Derived.Lib.SliceRun
import Derived.WideShapes
namespace Go.Proofs.Ytloflnachpjlgaa.Aid
open Go.RowKit
/-- append of all elements of a slice of numbers that has an address, to a slice of the call's own. -/
theorem append_all {P : Program} {W : World} {ops : Array Oper} {rest : List Oper} {o : Oper} {a : Act} {Q : Exit → Act → World → Prop} (hgd : o.guard = none) (s x : Operand) (t : TypeId)
    (ho : o.op = .call { callee := .builtin .append, args := #[s, x], argTypes := #[t, t] }) (base : Nat) (e : TypeId) (q : IntKind) (bytes : Nat) (ht : P.underlying t = some (.slice e))
    (hinfo : (P.info? e).map (fun i => (i.zero, i.size, i.bytes)) = some (some (.int q 0), 1, bytes)) (v : Value) (xs : List Int) (hs : a.eval s = v) (hown : Own W base e q v xs) (ys : List Int) (ad : Addr) (c : Nat)
    (hx : a.eval x = .slice (some ad) ys.length c) (hsrc : Ints W q (some ad) ys) (h63 : xs.length + ys.length ≤ 140737488355328) (hl : (xs.length + ys.length) * bytes ≤ 140737488355328) (hbase : base ≤ W.heap.size)
    (h : ∀ v' w', Own w' base e q v' (xs ++ ys) → Below base W w' → W.grownBy w' v.ownBlock → (v' = .slice none 0 0 ↔ v = .slice none 0 0 ∧ ys.length = 0) → wpList P ops Q rest (a.put o.dst v') w') :
    wpList P ops Q (o :: rest) a W := by
  obtain ⟨i0, hi, hz0, hz1, hz2⟩ := info_parts hinfo
  refine wpList_append_own W hgd s x t ho base e i0 (.int q 0) 1 bytes ht hi hz0 hz1 hz2 rfl (by decide) v xs.length _ hs hown ad ys.length c (ys.map (Value.int q)) hx (by simp) ?_ ?_ ?_ hl hbase ?_
  · intro j u hj
    have hj' : j < ys.length := by
      have := (List.getElem?_eq_some_iff.1 hj).1
      simpa using this
    obtain ⟨b, o', e', hlt, h1⟩ := hsrc j hj'
    cases e'
    rw [Go.WideShapes.add_plain, h1]
    simp [hj'] at hj
    simp [hj', ← hj]
  · intro u hu
    simp at hu
    obtain ⟨y, _, rfl⟩ := hu
    rfl
  · unfold maxLen; omega
  · intro v' w' h1 h2 h3
    have h4 : Own w' base e q v' (xs ++ ys) := by unfold Own; simpa using h1
    exact h v' w' h4 ((Below.refl base W).grown h2 hbase (fun k hk => (hown.base_le k hk).1)) h2 h3
/-- append of all elements of a slice of numbers, nil or not. -/
theorem append_any {P : Program} {W : World} {ops : Array Oper} {rest : List Oper} {o : Oper} {a : Act} {Q : Exit → Act → World → Prop} (hgd : o.guard = none) (s x : Operand) (t : TypeId)
    (ho : o.op = .call { callee := .builtin .append, args := #[s, x], argTypes := #[t, t] }) (base : Nat) (e : TypeId) (q : IntKind) (bytes : Nat) (ht : P.underlying t = some (.slice e))
    (hinfo : (P.info? e).map (fun i => (i.zero, i.size, i.bytes)) = some (some (.int q 0), 1, bytes)) (v : Value) (xs : List Int) (hs : a.eval s = v) (hown : Own W base e q v xs) (ys : List Int) (A : Option Addr) (n c : Nat)
    (hx : a.eval x = .slice A n c) (hn : ys.length = n) (hA : A = none → c = 0) (hsrc : Ints W q A ys) (h63 : xs.length + ys.length ≤ 140737488355328) (hl : (xs.length + ys.length) * bytes ≤ 140737488355328) (hbase : base ≤ W.heap.size)
    (h : ∀ v' w', Own w' base e q v' (xs ++ ys) → Below base W w' → W.grownBy w' v.ownBlock → (v ≠ .slice none 0 0 → v' ≠ .slice none 0 0) → wpList P ops Q rest (a.put o.dst v') w') :
    wpList P ops Q (o :: rest) a W := by
  subst hn
  cases A with
  | some ad => exact append_all hgd s x t ho base e q bytes ht hinfo v xs hs hown ys ad c hx hsrc h63 hl hbase fun v' w' h1 h2 h3 h4 => h v' w' h1 h2 h3 fun hv hv' => hv (h4.1 hv').1
  | none =>
    obtain rfl := hA rfl
    have hy : ys = [] := by
      rcases ys with _ | ⟨y, ys⟩
      · rfl
      · obtain ⟨b, o, e, _⟩ := hsrc 0 (by simp)
        cases e
    subst hy
    obtain ⟨i0, hi, hz0, hz1, hz2⟩ := info_parts hinfo
    refine wpList_append_own_none hgd s x t ho base e i0 1 ht hi v xs.length _ hs hown hx (h v W (by rw [List.append_nil]; exact hown) (Below.refl _ _) ?_ fun hv => hv)
    exact ⟨rfl, rfl, rfl, Nat.le_refl _, fun _ _ _ => rfl⟩
theorem OwnR.drewN {α : Type} {enc : α → List Value} {size : Nat} {w : World} {base : Nat} {e : TypeId} {v : Value} {xs : List α} (h : OwnR enc size w base e v xs) (n : Nat) : OwnR enc size (w.drewN n) base e v xs := h
/-- append of a pair of numbers. -/
theorem append_pair {P : Program} {W : World} {ops : Array Oper} {rest : List Oper} {o : Oper} {a : Act} {Q : Exit → Act → World → Prop} (hgd : o.guard = none) (s x : Operand) (t : TypeId)
    (ho : o.op = .call { callee := .builtin .append, args := #[s, x], argTypes := #[t, t] }) (base : Nat) (e : TypeId) (ht : P.underlying t = some (.slice e))
    (hinfo : (P.info? e).map (fun i => (i.zero, i.size, i.bytes)) = some (some (.agg #[.int .i64 0, .int .i64 0]), 2, 16)) (v : Value) (xs : List (Int × Int)) (hs : a.eval s = v) (hown : OwnR encP 2 W base e v xs) (m n : Int)
    (hx : a.eval x = .slice (some ⟨W.heap.size, 0, none⟩) 1 1) (hl : xs.length ≤ 1048576) (hbase : base ≤ W.heap.size)
    (h : ∀ v' w', OwnR encP 2 w' base e v' (xs ++ [(m, n)]) → Below base W w' → W.grownBy w' v.ownBlock → wpList P ops Q rest (a.put o.dst v') w') :
    wpList P ops Q (o :: rest) a (W.alloc (.cells #[.int .i64 m, .int .i64 n] e)) := by
  refine append_row hgd s x t ho base e _ 2 16 ht hinfo rfl (by decide) v xs.length _ [.int .i64 m, .int .i64 n] hs hown hx rfl (by simp [Value.oneCell']) (by omega) (by omega) hbase ?_
  intro v' w' h1 h2 h3
  refine h v' w' ?_ h2 h3
  unfold OwnR
  simpa [encP] using h1
/-- make of a row of one-cell elements. -/
theorem make_row {P : Program} (w : World) {ops : Array Oper} {rest : List Oper} {o : Oper} {a : Act} {Q : Exit → Act → World → Prop}
    (hg : o.guard = none) (l c : Operand) (t : TypeId) (hop : o.op = Op.makeSlice t l c) (e : TypeId) (h1 : P.underlying t = some (.slice e)) (z : Value) (bytes : Nat) (hz : z.cells = #[z]) (hinfo : (P.info? e).map (fun i => (i.zero, i.size, i.bytes)) = some (some z, 1, bytes))
    (kl kc : IntKind) (n : Nat) (hl : a.eval l = .int kl (n : Int)) (hc : a.eval c = .int kc (n : Int)) (hn : n ≤ 10000000) (hb : bytes ≤ 1000)
    (hK : ∀ w', Row w' e w.heap.size n (List.replicate n z) → w.heap.size < w'.heap.size → Below w.heap.size w w' → wpList P ops Q rest (a.put o.dst (.slice (some ⟨w.heap.size, 0, none⟩) n n)) w') :
    wpList P ops Q (o :: rest) a w := by
  obtain ⟨i0, hi, hz0, hz1, hz2⟩ := info_parts hinfo
  refine wpList_make_full w hg l c t hop 0 e i0 z 1 h1 hi hz0 hz1 kl kc _ _ n hl hc rfl rfl (by rw [hz2]; have := Nat.mul_le_mul hb hn; omega) (by unfold maxLen; omega) (Nat.zero_le _) ?_
  intro w' ho hgr
  have hr : Row w' e w.heap.size n (List.replicate n z) := by
    unfold Row
    rw [hz, Nat.mul_one, toList_madeCells_one] at ho
    rw [List.length_replicate]; exact ho
  exact hK w' hr hr.lt ((Below.refl _ _).grown hgr (Nat.le_refl _) (fun k hk => by cases hk))
theorem take_lay {α : Type} (cur vs cs : List α) (off : Nat) (h : cur.take vs.length = vs) (hf : off + cs.length ≤ vs.length) : (lay cur off cs).take vs.length = lay vs off cs := by
  have hl : vs.length ≤ cur.length := by
    have := congrArg List.length h
    simp at this; omega
  apply List.ext_getElem?
  intro k
  rw [List.getElem?_take, lay_get? _ _ _ _ hf, lay_get? _ _ _ _ (by omega)]
  have hv : ∀ k, k < vs.length → cur[k]? = vs[k]? := fun k hk => by rw [← h, List.getElem?_take, if_pos (by simpa [Nat.min_eq_left hl] using hk)]
  by_cases h1 : k < vs.length
  · rw [if_pos h1, hv k h1]
  · rw [if_neg h1, if_neg (by omega), if_neg (by omega), List.getElem?_eq_none (by omega)]
/-- copy into a row of the call's own. -/
theorem copy_row {P : Program} {w : World} {ops : Array Oper} {rest : List Oper} {o : Oper} {a : Act} {Q : Exit → Act → World → Prop} (hgd : o.guard = none) (d s : Operand) (dT sT : TypeId)
    (ho : o.op = .call { callee := .builtin .copy, args := #[d, s], argTypes := #[dT, sT] }) (elem : TypeId) (hu : P.underlying dT = some (.slice elem)) (hsz : (P.info? elem).map (·.size) = some 1)
    (dp sp : Option Addr) (dLen dCap sLen sCap : Nat) (hd : a.eval d = .slice dp dLen dCap) (hs : a.eval s = .slice sp sLen sCap)
    (e : TypeId) (g off c : Nat) (vs : List Value) (hrow : Row w e g c vs) (cs : List Value) (hn : cs.length = Nat.min sLen dLen)
    (hpos : 0 < cs.length → dp = some ⟨g, off, none⟩ ∧ ∃ ad, sp = some ad ∧ ∀ j v, cs[j]? = some v → w.cell? (ad.add j) = some v)
    (hfit : off + cs.length ≤ vs.length) (h1 : ∀ v ∈ cs, v.oneCell' = true)
    (h : ∀ w', Row w' e g c (lay vs off cs) → Kept [g] w w' → wpList P ops Q rest (a.put o.dst (goInt cs.length)) w') :
    wpList P ops Q (o :: rest) a w := by
  by_cases h0 : cs.length = 0
  · obtain rfl : cs = [] := List.eq_nil_of_length_eq_zero h0
    refine wpList_copy_nothing hgd d s dT sT ho elem hu hsz dp sp dLen dCap sLen sCap hd hs (by simpa using hn.symm) ?_
    exact h w (by rw [lay_nil]; exact hrow) (Kept.refl _ _)
  · obtain ⟨rfl, ad, rfl, hsrc⟩ := hpos (by omega)
    have hrow' := hrow
    obtain ⟨_, h2⟩ := hrow
    rcases h2 with ⟨h2, _⟩ | ⟨g', cap, cur, hv, _, hg, hnc, hcm, hcs, htake⟩
    · cases h2
    · cases hv
      rw [Nat.mul_one] at hcs htake
      have hcl : cur.toList.length = c := by simpa using hcs
      refine wpList_copy_own hgd d s dT sT ho elem hu hsz g off dLen dCap ad sLen sCap hd hs cur e hg cs hn hsrc (by rw [hcs]; omega) h1 (h _ ?_ ?_)
      · have hll := lay_len vs cs off hfit
        refine ⟨by rw [Nat.mul_one], .inr ⟨g, c, _, rfl, Nat.zero_le _, setRow_heap w g cur _ e _ hg, by omega, hcm, ?_, ?_⟩⟩
        · simp; omega
        · rw [hll, Nat.mul_one]
          have e1 : (List.take off cur.toList ++ (cs ++ List.drop (off + cs.length) cur.toList)) = lay cur.toList off cs := by unfold lay; rw [List.append_assoc]
          show List.take vs.length (List.take off cur.toList ++ (cs ++ List.drop (off + cs.length) cur.toList)) = _
          rw [e1]
          exact take_lay _ _ _ _ htake hfit
      · exact ⟨rfl, rfl, rfl, by simp [World.setRow], fun k hk hF => setRow_other w g k _ (by simpa using hF)⟩
end Go.Proofs.Ytloflnachpjlgaa.Aid
