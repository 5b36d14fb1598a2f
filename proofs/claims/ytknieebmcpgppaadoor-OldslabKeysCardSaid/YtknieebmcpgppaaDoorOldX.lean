/- The law's agree (layer 13): the program's slab has what the document's one has. -/
import Derived.Test.YtknieebmcpgppaaDoorOldW
set_option linter.unusedSimpArgs false
namespace Go.Proofs.YtknieebmcpgppaaDoor.Old
open Go.RowKit Go.Proofs.YtknieebmcpgppaaDoor.Aid Go.Proofs.YtknieebmcpgppaaDoor.Bit
abbrev KT : TypeId := 46
def pre (l : List Bool) (i : Nat) : List Bool := ((listL l).take i).foldl (fun r k => r.set k.toNat true) (List.replicate l.length false)
theorem fold_len : ∀ (vs : List Int) (r : List Bool), (vs.foldl (fun r k => r.set k.toNat true) r).length = r.length
  | [], _ => rfl
  | v :: vs, r => by rw [List.foldl_cons, fold_len vs, List.length_set]
theorem pre_len (l : List Bool) (i : Nat) : (pre l i).length = l.length := by unfold pre; rw [fold_len, List.length_replicate]
theorem list_in (l : List Bool) {i : Nat} (h : i < (listL l).length) : ∃ j : Nat, (listL l).getD i 0 = (j : Int) ∧ j < l.length := by
  have hm : (listL l).getD i 0 ∈ listL l := by rw [List.getD_eq_getElem?_getD, List.getElem?_eq_getElem h]; exact List.getElem_mem h
  generalize (listL l).getD i 0 = v at hm
  unfold listL bitsTo at hm
  obtain ⟨j, hj, e⟩ := List.mem_map.1 hm
  exact ⟨j, e.symm, by simpa using (List.mem_filter.1 hj).1⟩
theorem pre_succ (l : List Bool) {i j : Nat} (h : i < (listL l).length) (hj : (listL l).getD i 0 = (j : Int)) : pre l (i + 1) = (pre l i).set j true := by
  unfold pre
  rw [List.take_succ_eq_append_getElem h, List.foldl_append, List.foldl_cons, List.foldl_nil]
  rw [List.getD_eq_getElem?_getD, List.getElem?_eq_getElem h] at hj
  rw [show (listL l)[i] = (j : Int) from hj]
  rfl
theorem fold_get : ∀ (vs : List Int) (r : List Bool) (j : Nat), j < r.length → ((vs.foldl (fun r k => r.set k.toNat true) r).getD j false = true ↔ r.getD j false = true ∨ ∃ v ∈ vs, v.toNat = j)
  | [], r, j, _ => by simp
  | v :: vs, r, j, h => by
    rw [List.foldl_cons, fold_get vs (r.set v.toNat true) j (by rw [List.length_set]; exact h)]
    by_cases e : v.toNat = j
    · subst e
      simp [List.getD_eq_getElem?_getD, h]
    · simp [List.getD_eq_getElem?_getD, e]
theorem pre_end (l : List Bool) : pre l (listL l).length = l := by
  refine list_ext _ _ (pre_len l _) fun j hj => ?_
  rw [pre_len] at hj
  have h1 := fold_get (listL l) (List.replicate l.length false) j (by simpa using hj)
  have h2 := mem_listL l j hj
  unfold pre
  rw [List.take_length]
  have h3 : (∃ v ∈ listL l, v.toNat = j) ↔ l.getD j false = true := by
    rw [← h2]
    constructor
    · rintro ⟨v, hv, e⟩
      have h0 : ∃ k : Nat, v = (k : Int) := by
        have hm := hv
        unfold listL bitsTo at hm
        obtain ⟨k, _, e⟩ := List.mem_map.1 hm
        exact ⟨k, e.symm⟩
      obtain ⟨k, rfl⟩ := h0
      rw [Int.toNat_natCast] at e
      rw [← e]
      exact hv
    · intro h
      exact ⟨_, h, by simp⟩
  rw [h3] at h1
  have h4 : (List.replicate l.length false).getD j false = false := by simp [List.getD_eq_getElem?_getD, List.getElem?_replicate, hj]
  rw [h4] at h1
  rw [Bool.eq_iff_iff, h1]
  simp
theorem word_far {l : List Bool} {k : Nat} (h : l.length ≤ 64 * k) : Bit.word l k = 0 := by
  unfold Bit.word
  have : wordN l k = 0 := by
    apply Nat.eq_of_testBit_eq
    intro j
    rw [Nat.zero_testBit]
    by_cases hj : j < 64
    · rw [wordN_bit l k j hj, List.getD_eq_getElem?_getD, List.getElem?_eq_none (by omega)]
      rfl
    · exact Nat.testBit_lt_two_pow (Nat.lt_of_lt_of_le (ofBits_lt _ 64) (Nat.pow_le_pow_right (by decide) (by omega)))
  rw [this]
  rfl
theorem word_clear (n : Nat) : Bit.word (List.replicate n false) 0 = 0 := by
  unfold Bit.word
  have : wordN (List.replicate n false) 0 = 0 := by
    apply Nat.eq_of_testBit_eq
    intro j
    rw [Nat.zero_testBit]
    by_cases hj : j < 64
    · rw [wordN_bit _ 0 j hj, List.getD_eq_getElem?_getD, List.getElem?_replicate]
      split <;> rfl
    · exact Nat.testBit_lt_two_pow (Nat.lt_of_lt_of_le (ofBits_lt _ 64) (Nat.pow_le_pow_right (by decide) (by omega)))
  rw [this]
  rfl
theorem key_small {l : List Bool} (h : l.length ≤ 64) : keyV l = #[.int .u64 (Bit.word l 0), .int .u64 0, .int .u64 0, .int .u64 0] := by
  unfold keyV
  rw [word_far (k := 1) (by omega), word_far (k := 2) (by omega), word_far (k := 3) (by omega)]
theorem same_self (w : World) (A A' : Option Addr) (c c' : Nat) (vs : List Int) (h : Ints w .i64 A vs) (h' : Ints w .i64 A' vs) (hl : vs.length ≤ 1000) : Calls Tryd.prog 18 #[.slice A vs.length c, .slice A' vs.length c'] w fun e w' => e = .returned (.bool true) ∧ Below w.heap.size w w' := by
  refine (same_ints vs vs A A' c c' w h h' (by unfold maxLen; omega)).mono ?_
  rintro e w' ⟨rfl, nq, rfl⟩
  exact ⟨by simp, below_drewN (Below.refl _ _) _⟩
/-- What agree's questions rest on. -/
structure Ag (w : World) (p : Nat) (F : List Nat) (q : Nat) (G : List Nat) (x : Sb) (A : Option Addr) (b6 : Nat) : Prop where
  sl : SlAt w p F x
  tab : Tab w
  rf : RfAt w q G x
  ints : Ints w .i64 A (listL x.l)
  key : Blk w b6 #[.int .u64 (Bit.word x.l 0), .int .u64 0, .int .u64 0, .int .u64 0] KT
theorem Ag.on {w w' : World} {p : Nat} {F : List Nat} {q : Nat} {G : List Nat} {x : Sb} {A : Option Addr} {b6 : Nat} (h : Ag w p F q G x A b6) (k : Below w.heap.size w w') : Ag w' p F q G x A b6 :=
  ⟨h.sl.below k, h.tab.below k, h.rf.below k, h.ints.below k, h.key.below k⟩
end Go.Proofs.YtknieebmcpgppaaDoor.Old
