/- Rows of records of several cells each, in a block of their own: what they hold, a record written in place, the rest cleared, append. Nothing of the program stands here. -/
import Derived.Test.YtloflnachpjlgaaAidLists
import Derived.Test.YtloflnachpjlgaaAidArr
namespace Go.Proofs.Ytloflnachpjlgaa.Aid
open Go.RowKit
section
variable {α : Type} {enc : α → List Value} {z : Nat} {w w' : World} {e : TypeId} {g c : Nat} {xs : List α}
/-- A row of records with room for c. -/
structure Recs (enc : α → List Value) (z : Nat) (w : World) (e : TypeId) (g c : Nat) (xs : List α) : Prop where
  blk : ∃ cur : Array Value, Blk w g cur e ∧ cur.size = c * z ∧ cur.toList.take (xs.length * z) = xs.flatMap enc
  cap : xs.length ≤ c
  max : c ≤ maxLen
theorem Recs.lt (h : Recs enc z w e g c xs) : g < w.heap.size := by obtain ⟨cur, h1, _⟩ := h.blk; exact h1.lt
theorem Recs.same (h : Recs enc z w e g c xs) (hb : w'.heap[g]? = w.heap[g]?) : Recs enc z w' e g c xs := by
  obtain ⟨cur, h1, h2⟩ := h.blk
  exact ⟨⟨cur, hb.trans h1, h2⟩, h.cap, h.max⟩
theorem Recs.kept (h : Recs enc z w e g c xs) {F : List Nat} (k : Kept F w w') (hg : g ∉ F) : Recs enc z w' e g c xs := h.same (k.block g h.lt hg)
theorem Recs.below (h : Recs enc z w e g c xs) (k : Below w.heap.size w w') : Recs enc z w' e g c xs := h.same (k.block g h.lt)
theorem Recs.drew (h : Recs enc z w e g c xs) : Recs enc z w.drew e g c xs := ⟨h.blk, h.cap, h.max⟩
theorem Recs.drewN (h : Recs enc z w e g c xs) (n : Nat) : Recs enc z (w.drewN n) e g c xs := ⟨h.blk, h.cap, h.max⟩
theorem Recs.alloc (h : Recs enc z w e g c xs) (o : Obj) : Recs enc z (w.alloc o) e g c xs := h.same (Below.heap_alloc _ _ _ h.lt)
theorem Recs.other (h : Recs enc z w e g c xs) {a : Addr} (ha : g ≠ a.block) (v : Value) : Recs enc z (w.setCell a v) e g c xs := h.same (Below.heap_setCell _ _ _ _ ha)
theorem Recs.free (h : Recs enc z w e g c xs) (o : Nat) : w.frozen? ⟨g, o, none⟩ = false := by obtain ⟨cur, h1, _⟩ := h.blk; exact h1.free o
theorem Recs.at_ (h : Recs enc z w e g c xs) (henc : ∀ x, (enc x).length = z) {k j : Nat} {x : α} {v : Value} (hk : xs[k]? = some x) (hj : (enc x)[j]? = some v) : w.cell? ⟨g, k * z + j, none⟩ = some v := by
  obtain ⟨cur, h1, h2, h3⟩ := h.blk
  have hjz : j < z := by have := (List.getElem?_eq_some_iff.1 hj).1; rw [henc] at this; exact this
  have hkl : k < xs.length := (List.getElem?_eq_some_iff.1 hk).1
  have h4 := flat_get henc xs k j x hk hjz
  have hle : k * z + j < xs.length * z := by
    have : (k + 1) * z ≤ xs.length * z := Nat.mul_le_mul_right _ hkl
    rw [Nat.succ_mul] at this; omega
  rw [← h3, List.getElem?_take, if_pos hle, hj] at h4
  exact h1.cell (by simpa using h4)
theorem Recs.range (h : Recs enc z w e g c xs) (henc : ∀ x, (enc x).length = z) {k : Nat} {x : α} (hk : xs[k]? = some x) : w.rangeAt g (k * z) (enc x) := fun _ _ hj => h.at_ henc hk hj
theorem Recs.there (h : Recs enc z w e g c xs) {k m : Nat} (hk : k + m ≤ c) : w.there g (k * z) (m * z) := by
  obtain ⟨cur, h1, h2, h3⟩ := h.blk
  refine h1.there ?_
  rw [h2, ← Nat.add_mul]
  exact Nat.mul_le_mul_right _ hk
theorem Recs.cut (h : Recs enc z w e g c xs) (henc : ∀ x, (enc x).length = z) {k : Nat} (hk : k ≤ xs.length) : Recs enc z w e g c (xs.take k) := by
  obtain ⟨cur, h1, h2, h3⟩ := h.blk
  have hl : (xs.take k).length = k := by simp; omega
  refine ⟨⟨cur, h1, h2, ?_⟩, by have := h.cap; omega, h.max⟩
  have hle : k * z ≤ xs.length * z := Nat.mul_le_mul_right _ hk
  have e1 : xs.flatMap enc = (xs.take k).flatMap enc ++ (xs.drop k).flatMap enc := by rw [← List.flatMap_append, List.take_append_drop]
  have e2 : cur.toList.take (k * z) = (xs.flatMap enc).take (k * z) := by rw [← h3, List.take_take, Nat.min_eq_left hle]
  rw [hl, e2, e1, List.take_left' (by rw [flat_len henc, hl])]
theorem lay_take {β : Type} (bs vs : List β) (o m : Nat) (h : m ≤ o) (ho : o + vs.length ≤ bs.length) : (lay bs o vs).take m = bs.take m := by
  unfold lay
  rw [List.append_assoc, List.take_append_of_le_length (by rw [List.length_take]; omega), List.take_take, Nat.min_eq_left h]
/-- The rest of the row overwritten, whatever with. -/
theorem Recs.clear (h : Recs enc z w e g c xs) (henc : ∀ x, (enc x).length = z) {k : Nat} (hk : k ≤ xs.length) (vs : List Value) (hv : k * z + vs.length ≤ c * z) : Recs enc z (w.setCells g (k * z) vs) e g c (xs.take k) := by
  obtain ⟨cur, h1, h2, h3⟩ := (h.cut henc hk).blk
  have hl : (xs.take k).length = k := by simp; omega
  rw [hl] at h3
  refine ⟨⟨_, h1.setCells vs (k * z) (by omega), ?_, ?_⟩, by have := h.cap; omega, h.max⟩
  · unfold layA
    rw [List.size_toArray, lay_len _ _ _ (by simpa [h2] using hv)]
    simpa using h2
  · rw [hl, ← h3]
    unfold layA
    exact lay_take _ _ _ _ (Nat.le_refl _) (by simpa [h2] using hv)
theorem flat_set (henc : ∀ x, (enc x).length = z) : ∀ (xs : List α) (k : Nat) (y : α), k < xs.length → lay (xs.flatMap enc) (k * z) (enc y) = (xs.set k y).flatMap enc
  | x :: xs, 0, y, _ => by
    unfold lay
    rw [Nat.zero_mul, Nat.zero_add, List.take_zero, List.nil_append, List.flatMap_cons, List.set_cons_zero, List.flatMap_cons, henc, List.drop_left' (henc x)]
  | x :: xs, k + 1, y, h => by
    have ih := flat_set henc xs k y (by simpa using h)
    have hz : (k + 1) * z = (enc x).length + k * z := by rw [henc, Nat.succ_mul, Nat.add_comm]
    unfold lay at ih ⊢
    rw [List.set_cons_succ, List.flatMap_cons, List.flatMap_cons, ← ih, hz, List.take_length_add_append, Nat.add_assoc, List.drop_length_add_append]
    simp only [List.append_assoc]
theorem lay_whole {β : Type} (bs fs vs : List β) (m o : Nat) (h : bs.take m = fs) (hm : m ≤ bs.length) (ho : o + vs.length ≤ m) : (lay bs o vs).take m = lay fs o vs := by
  have hf : fs.length = m := by rw [← h, List.length_take]; omega
  apply List.ext_getElem?
  intro k
  by_cases hk : k < m
  · rw [List.getElem?_take, if_pos hk, lay_get? _ _ _ _ (by omega), lay_get? _ _ _ _ (by omega)]
    have : fs[k]? = bs[k]? := by rw [← h, List.getElem?_take, if_pos hk]
    rw [this]
  · rw [List.getElem?_eq_none (by rw [List.length_take]; omega), List.getElem?_eq_none (by rw [lay_len _ _ _ (by omega)]; omega)]
/-- A record written in place. -/
theorem Recs.put (h : Recs enc z w e g c xs) (henc : ∀ x, (enc x).length = z) {k : Nat} (hk : k < xs.length) (y : α) : Recs enc z (w.setCells g (k * z) (enc y)) e g c (xs.set k y) := by
  obtain ⟨cur, h1, h2, h3⟩ := h.blk
  have hle : k * z + z ≤ xs.length * z := by
    have : (k + 1) * z ≤ xs.length * z := Nat.mul_le_mul_right _ hk
    rw [Nat.succ_mul] at this; omega
  have hcz : xs.length * z ≤ c * z := Nat.mul_le_mul_right _ h.cap
  refine ⟨⟨_, h1.setCells (enc y) (k * z) (by rw [henc]; omega), ?_, ?_⟩, by rw [List.length_set]; exact h.cap, h.max⟩
  · unfold layA
    rw [List.size_toArray, lay_len _ _ _ (by rw [henc]; simp [h2]; omega)]
    simpa using h2
  · rw [List.length_set, ← flat_set henc xs k y hk]
    unfold layA
    exact lay_whole _ _ _ _ _ h3 (by simp [h2]; omega) (by rw [henc]; exact hle)
theorem Recs.own (h : Recs enc z w e g c xs) (henc : ∀ x, (enc x).length = z) {base : Nat} (hb : base ≤ g) : w.ownsRow base e z (.slice (some ⟨g, 0, none⟩) xs.length c) xs.length (xs.flatMap enc) := by
  obtain ⟨cur, h1, h2, h3⟩ := h.blk
  exact ⟨flat_len henc xs, .inr ⟨g, c, cur, rfl, hb, h1, h.cap, h.max, h2, h3⟩⟩
theorem Recs.of_own {base : Nat} {v : Value} {n : Nat} (h : w.ownsRow base e z v n (xs.flatMap enc)) (hn : n = xs.length) (hv : v ≠ .slice none 0 0) : ∃ g c, v = .slice (some ⟨g, 0, none⟩) n c ∧ Recs enc z w e g c xs ∧ base ≤ g := by
  subst hn
  obtain ⟨_, h2⟩ := h
  rcases h2 with ⟨e1, e2⟩ | ⟨g, cap, cur, e1, h3, h4, h5, h6, h7, h8⟩
  · exact absurd (by rw [e1]) hv
  · exact ⟨g, cap, e1, ⟨⟨cur, h4, h7, h8⟩, h5, h6⟩, h3⟩
theorem Recs.lit (w : World) (x : α) (e : TypeId) (henc : ∀ x, (enc x).length = z) : Recs enc z (w.alloc (.cells (enc x).toArray e)) e w.heap.size 1 [x] :=
  ⟨⟨_, Blk.new w _ e, by simp [henc], by simp [← henc x]⟩, by simp, by decide⟩
/-- A header: nil, or of a row. -/
def Hdr (enc : α → List Value) (z : Nat) (w : World) (e : TypeId) (hd : Value) (xs : List α) : Prop := (hd = .slice none 0 0 ∧ xs = []) ∨ ∃ g c, hd = .slice (some ⟨g, 0, none⟩) xs.length c ∧ Recs enc z w e g c xs
theorem Hdr.same {hd : Value} (h : Hdr enc z w e hd xs) (hb : ∀ g, hd.ownBlock = some g → w'.heap[g]? = w.heap[g]?) : Hdr enc z w' e hd xs := by
  rcases h with h | ⟨g, c, h1, h2⟩
  · exact .inl h
  · exact .inr ⟨g, c, h1, h2.same (hb g (by rw [h1]; rfl))⟩
theorem Hdr.lt {hd : Value} (h : Hdr enc z w e hd xs) {g : Nat} (hg : hd.ownBlock = some g) : g < w.heap.size := by
  rcases h with ⟨h, _⟩ | ⟨g', c, h1, h2⟩
  · rw [h] at hg; cases hg
  · rw [h1] at hg; injection hg with hg; subst hg; exact h2.lt
theorem Hdr.below {hd : Value} (h : Hdr enc z w e hd xs) (k : Below w.heap.size w w') : Hdr enc z w' e hd xs := h.same fun _ hg => k.block _ (h.lt hg)
theorem Hdr.kept {hd : Value} (h : Hdr enc z w e hd xs) {F : List Nat} (k : Kept F w w') (hF : ∀ g, hd.ownBlock = some g → g ∉ F) : Hdr enc z w' e hd xs := h.same fun g hg => k.block _ (h.lt hg) (hF g hg)
theorem Hdr.shape {hd : Value} (h : Hdr enc z w e hd xs) : ∃ A c, hd = .slice A xs.length c := by
  rcases h with ⟨h, h0⟩ | ⟨g, c, h1, _⟩
  · subst h0; exact ⟨none, 0, h⟩
  · exact ⟨_, c, h1⟩
theorem Hdr.own {hd : Value} (h : Hdr enc z w e hd xs) (henc : ∀ x, (enc x).length = z) : w.ownsRow 0 e z hd xs.length (xs.flatMap enc) := by
  rcases h with ⟨h, h0⟩ | ⟨g, c, h1, h2⟩
  · subst h0; subst h; exact World.ownsRow_nil _ _ _ _
  · subst h1; exact h2.own henc (Nat.zero_le _)
/-- append of one record, that lies in a block of its own, as a run. -/
theorem append_rec_run {P : Program} {W : World} (t ty : TypeId) (e : TypeId) (z0 : Value) (bytes : Nat) (ht : P.underlying t = some (.slice e)) (hinfo : (P.info? e).map (fun i => (i.zero, i.size, i.bytes)) = some (some z0, z, bytes)) (hz0 : z0.cells.size = z) (hz : 0 < z)
    (henc : ∀ x, (enc x).length = z) (hone : ∀ x, ∀ v ∈ enc x, v.oneCell' = true) {hd : Value} (hH : Hdr enc z W e hd xs) (y : α) (hsm : xs.length ≤ 1000000) (hby : bytes ≤ 1000) :
    ∃ g' c' w', (Builtin.append_ #[t, t] ty #[hd, .slice (some ⟨W.heap.size, 0, none⟩) 1 1]).run P (W.alloc (.cells (enc y).toArray e)) = .ok (.slice (some ⟨g', 0, none⟩) (xs.length + 1) c') w' ∧
      Recs enc z w' e g' c' (xs ++ [y]) ∧ (∀ i, i < W.heap.size → hd.ownBlock ≠ some i → w'.heap[i]? = W.heap[i]?) ∧ (hd.ownBlock = some g' ∨ W.heap.size ≤ g') ∧ W.heap.size ≤ w'.heap.size ∧ w'.os = W.os ∧ w'.tape = W.tape ∧ w'.output = W.output := by
  obtain ⟨i0, hi, hz1, hz2, hz3⟩ := info_parts hinfo
  have hb0 := (Below.refl W.heap.size W).alloc (Nat.le_refl _) (.cells (enc y).toArray e)
  obtain ⟨v', w', hrun, g1, g2, g3, g4⟩ := run_append_own_at (P := P) (W.alloc (.cells (enc y).toArray e)) 0 t ty e i0 z0 z bytes ht hi hz1 hz2 hz3 hz0 hz _ xs.length _ ((hH.below hb0).own henc) ⟨W.heap.size, 0, none⟩ 1 1 (enc y) (by rw [henc, Nat.one_mul]) (fun j u hj => by
    rw [Addr.add_mid, Nat.zero_add]
    exact (Blk.new W (enc y).toArray e).cell (by simpa using hj)) (hone y) (by unfold maxLen; omega) (by
      have : (xs.length + 1) * bytes ≤ 1000001 * 1000 := Nat.mul_le_mul (by omega) hby
      omega) (Nat.zero_le _)
  have e1 : xs.flatMap enc ++ enc y = (xs ++ [y]).flatMap enc := by simp
  rw [e1] at g1
  have hne : v' ≠ .slice none 0 0 := fun e1 => by have := (g3.1 e1).2; omega
  obtain ⟨g, c2, rfl, hr, _⟩ := Recs.of_own g1 (by simp) hne
  refine ⟨g, c2, w', hrun, hr, fun i hi2 hF => ?_, ?_, ?_, g2.os, g2.tape, g2.output⟩
  · rw [g2.block i (by simp; omega) (fun h => hF h.symm)]
    exact Below.heap_alloc _ _ _ hi2
  · rcases g4 with g4 | g4
    · left; rw [← g4]; rfl
    · right
      have : g = (W.alloc (.cells (enc y).toArray e)).heap.size := by simpa [Value.ownBlock] using g4
      rw [this]; simp
  · have := g2.size
    simp at this
    omega
/-- append of a whole row of records to an empty slice of the call's own, as a run: a new row. -/
theorem append_recs_run {P : Program} {W : World} (t ty : TypeId) (e : TypeId) (z0 : Value) (bytes : Nat) (ht : P.underlying t = some (.slice e)) (hinfo : (P.info? e).map (fun i => (i.zero, i.size, i.bytes)) = some (some z0, z, bytes)) (hz0 : z0.cells.size = z) (hz : 0 < z)
    (henc : ∀ x, (enc x).length = z) (hone : ∀ x, ∀ v ∈ enc x, v.oneCell' = true) (hR : Recs enc z W e g c xs) (hsm : xs.length ≤ 1000000) (hby : bytes ≤ 1000) :
    ∃ g' c' w', (Builtin.append_ #[t, t] ty #[.slice (some ⟨W.heap.size, 0, none⟩) 0 0, .slice (some ⟨g, 0, none⟩) xs.length c]).run P (W.alloc (.cells #[] e)) = .ok (.slice (some ⟨g', 0, none⟩) xs.length c') w' ∧
      Recs enc z w' e g' c' xs ∧ W.heap.size ≤ g' ∧ Below W.heap.size W w' := by
  obtain ⟨i0, hi, hz1, hz2, hz3⟩ := info_parts hinfo
  have hb0 := (Below.refl W.heap.size W).alloc (Nat.le_refl _) (.cells #[] e)
  have hR0 := hR.below hb0
  obtain ⟨v', w', hrun, h1, h2, h3⟩ := run_append_own (P := P) (W.alloc (.cells #[] e)) W.heap.size t ty e i0 z0 z bytes ht hi hz1 hz2 hz3 hz0 hz _ 0 [] (own_lit0 W W.heap.size (Nat.le_refl _) e z) ⟨g, 0, none⟩ xs.length c (xs.flatMap enc) (flat_len henc xs) (fun j u hj => by
    rw [Addr.add_mid, Nat.zero_add]
    obtain ⟨cur, k1, k2, k3⟩ := hR0.blk
    rw [← k3] at hj
    rw [List.getElem?_take] at hj
    split at hj
    · exact k1.cell (by simpa using hj)
    · cases hj) (fun u hu => by
      obtain ⟨x, _, hx⟩ := List.mem_flatMap.1 hu
      exact hone x u hx) (by unfold maxLen; omega) (by
      have : (0 + xs.length) * bytes ≤ 1000000 * 1000 := Nat.mul_le_mul (by omega) hby
      omega) hb0.size
  rw [List.nil_append, Nat.zero_add] at h1
  have hne : v' ≠ .slice none 0 0 := fun e => by have := (h3.1 e).1; cases this
  obtain ⟨g2, c2, rfl, hr, hg⟩ := Recs.of_own h1 rfl hne
  exact ⟨g2, c2, w', hrun, hr, hg, hb0.trans ((Below.refl W.heap.size _).grown h2 hb0.size (fun k hk => by injection hk with hk; exact Nat.le_of_eq hk))⟩
end
/-- A struct of two numbers as a key. -/
theorem keyL_st2 {P : Program} {k : TypeId} {q : IntKind} {f0 f1 : Field} {m : Nat} (hl : laidOutB P = true) (hu : P.underlying k = some (.struct #[f0, f1])) (h0 : P.underlying f0.type = some (.int q)) (h1 : P.underlying f1.type = some (.int q)) (o0 : f0.offset = 0) (o1 : f1.offset = 1)
    (c0 : P.cellsOf f0.type = 1) (c1 : P.cellsOf f1.type = 1) (hn : (#[f0, f1].all (·.name != "_")) = true) (hc : P.cellsOf k = 2) (hkt : P.keyType k = true) (hsz : P.types.size = m + 1) (hrow : k < P.types.size) (hk2 : P.keyTypeAt 2 k = true) : KeyAs P k (keL q) (okL q 2) := by
  refine ⟨Go.Maps.Keyed.of_law (deep_law_laid hl (m := 2) (by omega) hrow hk2 (by rw [hu])), fun xs ⟨hx, hw⟩ => ?_, keL_inj q⟩
  match xs, hx with
  | [x, y], _ =>
    have hwx := hw x (by simp)
    have hwy := hw y (by simp)
    unfold keyOf keL
    simp only [hu]
    rw [if_pos (by simp [hkt, Value.formed, hu, hc]), hsz]
    unfold Program.keyLits
    simp only [hu, Value.cells]
    rw [if_pos ⟨by simp [hc], hn⟩]
    simp [List.mapM_cons, o0, o1, c0, c1, Program.keyLits, h0, h1, hwx, hwy]
end Go.Proofs.Ytloflnachpjlgaa.Aid
