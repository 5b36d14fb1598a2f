/- Slabs of the old layout in plain words: a base, a class, a size, which slots are taken. -/
import Derived.Test.YtknieebmcpgppaaDoorOldT
import Derived.Test.YtknieebmcpgppaaDoorBitN
import Derived.Test.YtknieebmcpgppaaDoorBitR
namespace Go.Proofs.YtknieebmcpgppaaDoor.Old
open Go.RowKit Go.Proofs.YtknieebmcpgppaaDoor.Aid Go.Proofs.YtknieebmcpgppaaDoor.Bit
structure Sb where
  b : Nat
  c : Nat
  z : Nat
  l : List Bool
structure OkB (x : Sb) : Prop where
  hi : x.b + 1024 ≤ 1048576
  cl : x.c < 16
  z1 : 16 ≤ x.z
  z2 : x.z ≤ 512
  len : x.l.length = 1024 / x.z
  size : Tab.sizeV x.c = (x.z : Int)
theorem OkB.many {x : Sb} (h : OkB x) : x.l.length ≤ 64 ∧ 2 ≤ x.l.length ∧ x.l.length * x.z ≤ 1024 := by
  rw [h.len]
  have h1 := h.z1
  have h2 := h.z2
  refine ⟨?_, ?_, Nat.div_mul_le_self _ _⟩
  · exact Nat.le_trans (Nat.div_le_div_left h1 (by decide)) (by decide)
  · rw [Nat.le_div_iff_mul_le (by omega)]
    omega
theorem OkB.at_ {x : Sb} (h : OkB x) {k : Nat} (hk : k < x.l.length) : k * x.z + x.z ≤ 1024 := by
  have h1 := h.many.2.2
  have h2 : (k + 1) * x.z ≤ x.l.length * x.z := Nat.mul_le_mul_right _ hk
  rw [Nat.succ_mul] at h2
  omega
theorem OkB.with {x : Sb} (h : OkB x) {l : List Bool} (hl : l.length = x.l.length) : OkB { x with l := l } := ⟨h.hi, h.cl, h.z1, h.z2, hl.trans h.len, h.size⟩
/-- The slot that begins at an address. -/
def slotO (x : Sb) (a : Int) : Option Nat := (List.range x.l.length).find? fun k => ((x.b + k * x.z : Nat) : Int) == a
def slotV : Option Nat → Int
  | none => -1
  | some k => (k : Int)
def slotE : Option Nat → Int
  | none => 12
  | some _ => 0
theorem slotO_some {x : Sb} {a : Int} {k : Nat} (h : slotO x a = some k) : k < x.l.length ∧ ((x.b + k * x.z : Nat) : Int) = a := by
  unfold slotO at h
  have h1 := List.find?_some h
  have h2 := List.mem_of_find?_eq_some h
  exact ⟨by simpa using h2, by simpa using h1⟩
theorem slotO_none {x : Sb} {a : Int} (h : slotO x a = none) {k : Nat} (hk : k < x.l.length) : ((x.b + k * x.z : Nat) : Int) ≠ a := by
  unfold slotO at h
  have h1 := List.find?_eq_none.1 h k (by simpa using hk)
  simpa using h1
theorem slotO_at {x : Sb} (h : OkB x) {a : Int} {k : Nat} (hk : k < x.l.length) (ha : ((x.b + k * x.z : Nat) : Int) = a) : slotO x a = some k := by
  cases hs : slotO x a with
  | none => exact absurd ha (slotO_none hs hk)
  | some j =>
    obtain ⟨h1, h2⟩ := slotO_some hs
    have h3 : j * x.z = k * x.z := by omega
    have := h.z1
    rw [Nat.eq_of_mul_eq_mul_right (by omega) h3]
theorem slotO_out {x : Sb} (h : OkB x) {a : Int} (ha : a < x.b ∨ (x.b + x.z * x.l.length : Nat) ≤ a) : slotO x a = none := by
  cases hs : slotO x a with
  | none => rfl
  | some k =>
    obtain ⟨h1, h2⟩ := slotO_some hs
    have h3 : (k + 1) * x.z ≤ x.l.length * x.z := Nat.mul_le_mul_right _ h1
    rw [Nat.succ_mul] at h3
    rw [Nat.mul_comm x.z] at ha
    have := h.z1
    omega
theorem slotO_mod {x : Sb} {d : Nat} (hd : d % x.z ≠ 0) : slotO x ((x.b : Int) + d) = none := by
  cases hs : slotO x ((x.b : Int) + d) with
  | none => rfl
  | some k =>
    obtain ⟨h1, h2⟩ := slotO_some hs
    have : d = k * x.z := by omega
    rw [this, Nat.mul_mod_left] at hd
    exact absurd rfl hd
theorem slotO_div {x : Sb} (h : OkB x) {d : Nat} (hd : d % x.z = 0) (hl : d < x.z * x.l.length) : slotO x ((x.b : Int) + d) = some (d / x.z) := by
  have h1 := h.z1
  have h2 : d / x.z * x.z = d := by
    have := Nat.div_add_mod d x.z
    rw [Nat.mul_comm, hd] at this
    omega
  refine slotO_at h ((Nat.div_lt_iff_lt_mul (by omega)).2 (by rw [Nat.mul_comm]; exact hl)) ?_
  rw [h2]
  omega
/-- Where a slot begins. -/
def addrV (x : Sb) (k : Int) : Int := if inR x.l k = true then (x.b : Int) + k * x.z else -1
/-- A slot is taken. -/
def takeX (x : Sb) : Sb := { x with l := setL x.l (first x.l 0 false) true }
def takeA (x : Sb) : Int := if first x.l 0 false = -1 then -1 else (x.b : Int) + first x.l 0 false * x.z
def takeE (x : Sb) : Int := if first x.l 0 false = -1 then 18 else 0
theorem takeX_ok {x : Sb} (h : OkB x) : OkB (takeX x) := h.with (setL_len _ _ _)
/-- A slot is free: on a row. -/
def giveL (x : Sb) (l : List Bool) (a : Int) : List Bool := match slotO x a with
  | none => l
  | some k => setL l k false
def giveE (x : Sb) (l : List Bool) (a : Int) : Int := match slotO x a with
  | none => 12
  | some k => if setB l k false = true then 0 else 19
theorem giveL_len (x : Sb) (l : List Bool) (a : Int) : (giveL x l a).length = l.length := by
  unfold giveL
  split
  · rfl
  · exact setL_len _ _ _
/-- Slots are free, as long as they are right. -/
def giveAll (x : Sb) : List Bool → List Int → Int × List Bool
  | l, [] => (0, l)
  | l, a :: r => if giveE x l a = 0 then giveAll x (giveL x l a) r else (giveE x l a, l)
theorem giveAll_len (x : Sb) : ∀ (r : List Int) (l : List Bool), (giveAll x l r).2.length = l.length
  | [], _ => rfl
  | a :: r, l => by
    unfold giveAll
    split
    · rw [giveAll_len x r, giveL_len]
    · rfl
/-- Slots are taken ahead. -/
def withO : List Bool → List Int → Option (List Bool)
  | l, [] => some l
  | l, k :: r => if setB l k true = true then withO (setL l k true) r else none
theorem withO_len : ∀ (r : List Int) {l l' : List Bool}, withO l r = some l' → l'.length = l.length
  | [], l, l', h => by cases h; rfl
  | k :: r, l, l', h => by
    unfold withO at h
    split at h
    · rw [withO_len r h, setL_len]
    · cases h
theorem drop_at {l : List Int} {k : Nat} (h : k < l.length) : l.drop k = l.getD k 0 :: l.drop (k + 1) := by
  rw [List.drop_eq_getElem_cons h, List.getD_eq_getElem?_getD, List.getElem?_eq_getElem h]
  rfl
theorem withO_step {l : List Bool} {r : List Int} {k : Nat} (h : k < r.length) : withO l (r.drop k) = if setB l (r.getD k 0) true = true then withO (setL l (r.getD k 0) true) (r.drop (k + 1)) else none := by
  rw [drop_at h]
  rfl
theorem giveAll_step (x : Sb) {l : List Bool} {r : List Int} {k : Nat} (h : k < r.length) : giveAll x l (r.drop k) = if giveE x l (r.getD k 0) = 0 then giveAll x (giveL x l (r.getD k 0)) (r.drop (k + 1)) else (giveE x l (r.getD k 0), l) := by
  rw [drop_at h]
  rfl
/-- So many are taken. -/
def st (x : Sb) : Nat → Sb
  | 0 => x
  | i + 1 => takeX (st x i)
def sm (x : Sb) : Nat → List Int
  | 0 => []
  | i + 1 => sm x i ++ [takeA (st x i)]
theorem sm_len (x : Sb) : ∀ i, (sm x i).length = i
  | 0 => rfl
  | i + 1 => by rw [sm, List.length_append, sm_len x i]; rfl
def stops (x : Sb) (n : Int) (i : Nat) : Prop := (n ≤ i ∨ takeE (st x i) ≠ 0) ∧ ∀ j, j < i → (j : Int) < n ∧ takeE (st x j) = 0
theorem stops_one {x : Sb} {n : Int} {i j : Nat} (h : stops x n i) (k : stops x n j) : i = j := by
  rcases Nat.lt_trichotomy i j with e | e | e
  · obtain ⟨h1, h2⟩ := k.2 i e
    rcases h.1 with h3 | h3
    · omega
    · exact absurd h2 h3
  · exact e
  · obtain ⟨h1, h2⟩ := h.2 j e
    rcases k.1 with h3 | h3
    · omega
    · exact absurd h2 h3
theorem st_ok {x : Sb} (h : OkB x) : ∀ i, OkB (st x i)
  | 0 => h
  | i + 1 => takeX_ok (st_ok h i)
theorem st_same (x : Sb) : ∀ i, (st x i).b = x.b ∧ (st x i).c = x.c ∧ (st x i).z = x.z ∧ (st x i).l.length = x.l.length
  | 0 => ⟨rfl, rfl, rfl, rfl⟩
  | i + 1 => by
    obtain ⟨h1, h2, h3, h4⟩ := st_same x i
    exact ⟨h1, h2, h3, (setL_len _ _ _).trans h4⟩
/-- Each that is taken is one more. -/
theorem cnt_set (l : List Bool) (k : Nat) (h : l.getD k false = false) : ∀ n, cntTo (l.set k true) n = cntTo l n + if k < n ∧ k < l.length then 1 else 0
  | 0 => by simp [cntTo, cnt]
  | n + 1 => by
    rw [cntTo_succ, cntTo_succ, cnt_set l k h n]
    by_cases hk : k = n
    · subst hk
      by_cases hl : k < l.length
      · simp [List.getD_eq_getElem?_getD, hl] at h ⊢
        simp [h]
      · simp [List.getD_eq_getElem?_getD, hl]
    · have hg : (l.set k true).getD n false = l.getD n false := by simp [List.getD_eq_getElem?_getD, hk]
      rw [hg]
      have : (k < n + 1 ∧ k < l.length) = (k < n ∧ k < l.length) := by rw [eq_iff_iff]; omega
      simp only [this]
      omega
theorem take_cnt {x : Sb} (h : takeE x = 0) : cntL (takeX x).l = cntL x.l + 1 ∧ cntL x.l < x.l.length := by
  unfold takeE at h
  split at h
  · cases h
  · rename_i hf
    rcases first_is x.l 0 false with ⟨h1, _⟩ | ⟨k, h1, _, h3, h4, _⟩
    · exact absurd h1 hf
    · unfold takeX
      rw [h1]
      show cntL (setL x.l k true) = _ ∧ _
      have hs : setL x.l k true = x.l.set k true := by unfold setL; rw [inR_nat _ _ h3]; rfl
      have hc : cntL (x.l.set k true) = cntL x.l + 1 := by
        unfold cntL
        rw [cnt_set _ _ h4, List.length_set, if_pos ⟨h3, h3⟩]
      have := cntTo_le (x.l.set k true) (x.l.set k true).length
      rw [hs]
      refine ⟨hc, ?_⟩
      unfold cntL at hc
      rw [hc, List.length_set] at this
      unfold cntL
      omega
theorem stops_le {x : Sb} : ∀ i, (∀ j, j < i → takeE (st x j) = 0) → cntL x.l + i = cntL (st x i).l ∧ (i = 0 ∨ i ≤ x.l.length)
  | 0, _ => ⟨rfl, .inl rfl⟩
  | i + 1, h => by
    obtain ⟨h1, h2⟩ := stops_le i fun j hj => h j (by omega)
    obtain ⟨h3, h4⟩ := take_cnt (h i (by omega))
    have h5 := (st_same x i).2.2.2
    refine ⟨by show _ = cntL (takeX (st x i)).l; omega, .inr ?_⟩
    omega
end Go.Proofs.YtknieebmcpgppaaDoor.Old
