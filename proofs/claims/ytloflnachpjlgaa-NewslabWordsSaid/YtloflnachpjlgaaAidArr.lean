/- Small words on arrays of numbers by value: equality, index, load out of a block and store into one, at whatever length. Nothing of the program stands here. -/
import Derived.Test.YtloflnachpjlgaaAidMap
import Derived.Deep.MidRow
import Derived.ChangeKeysEq
namespace Go.Proofs.Ytloflnachpjlgaa.Aid
open Go.RowKit
theorem keL_get (q : IntKind) (xs : List Int) (k : Nat) (h : k < xs.length) : ((xs.map (Value.int q)).toArray)[k]? = some (.int q (xs.getD k 0)) := by
  simp [List.getD_eq_getElem?_getD, h]
section
variable {P : Program} {T e : TypeId} {q : IntKind} {n : Nat}
theorem eqItems_nums (he : P.underlying e = some (.int q)) (hc : P.cellsOf e = 1) (hp : P.plainKey e = true) (xs ys : List Int) (w : World) : ∀ js : List Nat, (∀ j ∈ js, j < xs.length ∧ j < ys.length) →
    (Op.eqItems 9999 e 1 (xs.map (Value.int q)).toArray (ys.map (Value.int q)).toArray js).run P w = .ok (js.all fun j => xs.getD j 0 == ys.getD j 0) w
  | [], _ => by simp [Op.eqItems]
  | j :: js, h => by
    obtain ⟨h1, h2⟩ := h j (by simp)
    have ih := eqItems_nums he hc hp xs ys w js (fun i hi => h i (by simp [hi]))
    simp only [Op.eqItems, Sem.run_bind, Nat.mul_one]
    rw [run_part_plain w hp (keL_get q xs j h1), Result.andThen_ok, run_part_plain w hp (keL_get q ys j h2), Result.andThen_ok, run_equalIn_int w 9998 e q q _ _ he, Result.andThen_ok]
    rw [List.all_cons]
    cases hq : (xs.getD j 0 == ys.getD j 0)
    · simp
    · simp only [Bool.not_true, Bool.false_eq_true, if_false, Bool.true_and]
      exact ih
theorem all_eq (xs ys : List Int) (h : xs.length = ys.length) : ((List.range xs.length).all fun j => xs.getD j 0 == ys.getD j 0) = (xs == ys) := by
  by_cases he : xs = ys
  · subst he; simp
  · have : (xs == ys) = false := by simpa using he
    rw [this, List.all_eq_false]
    refine Classical.byContradiction fun hn => he ?_
    apply List.ext_getElem h
    intro j h1 h2
    refine Classical.byContradiction fun hne => hn ⟨j, by simpa using h1, ?_⟩
    simpa [List.getD_eq_getElem?_getD, h1, h2] using hne
/-- Two arrays of numbers held against each other. -/
theorem eq_nums (hu : P.underlying T = some (.array n e)) (he : P.underlying e = some (.int q)) (hc : P.cellsOf e = 1) (hp : P.plainKey e = true) (xs ys : List Int) (hx : xs.length = n) (hy : ys.length = n) (w : World) :
    (Op.equalIn 10000 T (keL q xs) (keL q ys)).run P w = .ok (xs == ys) w := by
  obtain ⟨i, hi⟩ : ∃ i, P.info? e = some i := info_of_underlying he
  unfold keL
  rw [run_equalIn_array w 9999 _ _ hu hi, hc, eqItems_nums he hc hp xs ys w _ (by intro j hj; simp at hj; omega), ← hx, all_eq xs ys (by omega)]
/-- An element of an array by value. -/
theorem idx_nums (hu : P.underlying T = some (.array n e)) (he : P.underlying e = some (.int q)) (hc : (P.info? e).map (·.size) = some 1) (hp : P.plainKey e = true) (xs : List Int) (hx : xs.length = n) (k : Nat) (hk : k < n) (w : World) :
    (Instr.index T (keL q xs) (.int .i64 (k : Int))).run P w = .ok (.int q (xs.getD k 0)) w := by
  obtain ⟨i, hi⟩ : ∃ i, P.info? e = some i := info_of_underlying he
  have hs : i.size = 1 := by simpa [hi] using hc
  unfold keL
  have h0 : (0 : Int) ≤ (k : Int) ∧ (k : Int) < (n : Int) := by omega
  simp [Instr.index, asIntOf, run_underlying hu, sizeOf, typeInfo, hi, hs, Result.andThen, hk, run_part_plain w hp (keL_get q xs k (by omega))]
/-- Cells of a known block from an offset on. -/
theorem Blk.range {w : World} {b o : Nat} {cs : Array Value} {vs : List Value} {X : TypeId} (h : Blk w b cs X) (hv : ∀ j v, vs[j]? = some v → cs[o + j]? = some v) : w.rangeAt b o vs := fun j v hj => h.cell (hv j v hj)
theorem Blk.there {w : World} {b o m : Nat} {cs : Array Value} {X : TypeId} (h : Blk w b cs X) (hm : o + m ≤ cs.size) : w.there b o m := fun j hj =>
  ⟨by rw [h.cell (v := cs[o + j]'(by omega)) (by simp)]; rfl, h.free _⟩
theorem load_nums {w : World} {b o : Nat} {d : TypeDesc} (xs : List Int) (hr : w.rangeAt b o (xs.map (Value.int q))) (hu : P.underlying T = some d) (hd : d.isRow = true) (hi : (P.info? T).map (·.size) = some n) (hx : xs.length = n) :
    (Instr.loadAt T (.pointer (some ⟨b, o, none⟩))).run P w = .ok (keL q xs) w := run_loadAt_mid w b o T _ d hr hu hd (by rw [hi]; simp [hx])
/-- A block behind a store of several cells. -/
def layA (cs : Array Value) (o : Nat) (vs : List Value) : Array Value := (lay cs.toList o vs).toArray
theorem Blk.setCells {w : World} {b : Nat} {X : TypeId} : ∀ (vs : List Value) {cs : Array Value} (o : Nat), Blk w b cs X → o + vs.length ≤ cs.size → Blk (w.setCells b o vs) b (layA cs o vs) X
  | [], cs, o, h, _ => by
    have : layA cs o [] = cs := by unfold layA; rw [lay_nil]
    rw [this]; exact h
  | v :: r, cs, o, h, hl => by
    simp only [List.length_cons] at hl
    rw [World.setCells]
    have h1 := h.set o v
    have h2 := Blk.setCells r (o + 1) h1 (by simp; omega)
    have e : layA (cs.setIfInBounds o v) (o + 1) r = layA cs o (v :: r) := by
      unfold layA
      congr 1
      rw [Array.toList_setIfInBounds]
      apply List.ext_getElem?
      intro i
      rw [lay_get? _ _ _ _ (by simp; omega), lay_get? _ _ _ _ (by simp; omega)]
      simp only [List.length_cons]
      by_cases h3 : i < o
      · rw [if_pos (by omega), if_pos h3, List.getElem?_set_ne (by omega)]
      · rw [if_neg h3]
        by_cases h4 : i = o
        · subst h4
          rw [if_pos (by omega), if_pos (by omega), List.getElem?_set_self (by rw [Array.length_toList]; omega), Nat.sub_self]
          rfl
        · rw [if_neg (by omega)]
          by_cases h5 : i < o + 1 + r.length
          · rw [if_pos h5, if_pos (by omega), show i - o = (i - (o + 1)) + 1 by omega, List.getElem?_cons_succ]
          · rw [if_neg h5, if_neg (by omega), List.getElem?_set_ne (by omega)]
    rw [← e]; exact h2
theorem Blk.setCells_other {w : World} {b b' : Nat} {cs : Array Value} {X : TypeId} (h : Blk w b cs X) (hb : b ≠ b') : ∀ (vs : List Value) (o : Nat), Blk (w.setCells b' o vs) b cs X := by
  intro vs
  induction vs generalizing w with
  | nil => intro o; exact h
  | cons v r ih => intro o; rw [World.setCells]; exact ih (h.other (a := ⟨b', o, none⟩) hb v) (o + 1)
theorem MapI.setCells {α : Type} {w : World} {k e : TypeId} {ke : α → Value} {OK : α → Prop} {b m b' : Nat} {g : α → Option Int} (h : MapI w P k e q ke OK b m g) (hb : b ≠ b') : ∀ (vs : List Value) (o : Nat), MapI (w.setCells b' o vs) P k e q ke OK b m g := by
  intro vs
  induction vs generalizing w with
  | nil => intro o; exact h
  | cons v r ih => intro o; rw [World.setCells]; exact ih (h.other (a := ⟨b', o, none⟩) hb v) (o + 1)
theorem Kept.setCells {F : List Nat} {a w : World} {b : Nat} (h : Kept F a w) (hb : b ∈ F ∨ a.heap.size ≤ b) : ∀ (vs : List Value) (o : Nat), Kept F a (w.setCells b o vs) := by
  intro vs
  induction vs generalizing w with
  | nil => intro o; exact h
  | cons v r ih => intro o; rw [World.setCells]; exact ih (h.setCell (p := ⟨b, o, none⟩) hb v) (o + 1)
theorem ones_nums (q : IntKind) (xs : List Int) : (xs.map (Value.int q)).toArray.all (·.oneCell') = true :=
  all_oneCell_toArray fun v hv => by
    obtain ⟨x, _, rfl⟩ := List.mem_map.1 hv
    rfl
theorem store_nums {w : World} {b o : Nat} (xs : List Int) (ht : w.there b o xs.length) (hi : (P.info? T).map (·.size) = some n) (hx : xs.length = n) :
    (Instr.storeAt T (.pointer (some ⟨b, o, none⟩)) (keL q xs)).run P w = .ok () (w.setCells b o (xs.map (Value.int q))) := by
  have := run_storeAt_mid (P := P) w b o T (xs.map (Value.int q)).toArray (by simpa using ht) (by rw [hi]; simp [hx]) (ones_nums q xs)
  simpa [keL] using this
end
end Go.Proofs.Ytloflnachpjlgaa.Aid
