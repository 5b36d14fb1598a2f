/- Slabs of the new layout in plain words: the list as a chain; what a push and a pop leave. -/
import Derived.Test.YtloflnachpjlgaaNewF
set_option linter.unusedSimpArgs false
namespace Go.Proofs.Ytloflnachpjlgaa.New
open Go.RowKit Go.Proofs.Ytloflnachpjlgaa.Aid Go.Proofs.Ytloflnachpjlgaa.Cell
/-- The slot that begins at an address. -/
def slotO (x : Sn) (a : Int) : Option Nat := (List.range x.n).find? fun k => ((x.b + k * x.z : Nat) : Int) == a
def slotV : Option Nat → Int
  | none => -1
  | some k => (k : Int)
def slotE : Option Nat → Int
  | none => 12
  | some _ => 0
theorem slotO_some {x : Sn} {a : Int} {k : Nat} (h : slotO x a = some k) : k < x.n ∧ ((x.b + k * x.z : Nat) : Int) = a := by
  unfold slotO at h
  have h1 := List.find?_some h
  have h2 := List.mem_of_find?_eq_some h
  exact ⟨by simpa using h2, by simpa using h1⟩
theorem slotO_none {x : Sn} {a : Int} (h : slotO x a = none) {k : Nat} (hk : k < x.n) : ((x.b + k * x.z : Nat) : Int) ≠ a := by
  unfold slotO at h
  have h1 := List.find?_eq_none.1 h k (by simpa using hk)
  simpa using h1
theorem slotO_at {x : Sn} {bs : List Int} (h : OkN x bs) {a : Int} {k : Nat} (hk : k < x.n) (ha : ((x.b + k * x.z : Nat) : Int) = a) : slotO x a = some k := by
  cases hs : slotO x a with
  | none => exact absurd ha (slotO_none hs hk)
  | some j =>
    obtain ⟨h1, h2⟩ := slotO_some hs
    have h3 : j * x.z = k * x.z := by omega
    have := h.z1
    rw [Nat.eq_of_mul_eq_mul_right (by omega) h3]
theorem slotO_out {x : Sn} {bs : List Int} (h : OkN x bs) {a : Int} (ha : a < x.b ∨ (x.b + x.z * x.n : Nat) ≤ a) : slotO x a = none := by
  cases hs : slotO x a with
  | none => rfl
  | some k =>
    obtain ⟨h1, h2⟩ := slotO_some hs
    have h3 : (k + 1) * x.z ≤ x.n * x.z := Nat.mul_le_mul_right _ h1
    rw [Nat.succ_mul] at h3
    rw [Nat.mul_comm x.z] at ha
    have := h.z1
    omega
theorem slotO_mod {x : Sn} {d : Nat} (hd : d % x.z ≠ 0) : slotO x ((x.b : Int) + d) = none := by
  cases hs : slotO x ((x.b : Int) + d) with
  | none => rfl
  | some k =>
    obtain ⟨h1, h2⟩ := slotO_some hs
    have : d = k * x.z := by omega
    rw [this, Nat.mul_mod_left] at hd
    exact absurd rfl hd
theorem slotO_div {x : Sn} {bs : List Int} (h : OkN x bs) {d : Nat} (hd : d % x.z = 0) (hl : d < x.z * x.n) : slotO x ((x.b : Int) + d) = some (d / x.z) := by
  have h1 := h.z1
  have h2 : d / x.z * x.z = d := by
    have := Nat.div_add_mod d x.z
    rw [Nat.mul_comm, hd] at this
    omega
  refine slotO_at h ((Nat.div_lt_iff_lt_mul (by omega)).2 (by rw [Nat.mul_comm]; exact hl)) ?_
  rw [h2]
  omega
theorem num_snoc (l : List Int) (x : Int) : num (l ++ [x]) = num l + x * ((256 ^ l.length : Nat) : Int) := by
  induction l with
  | nil => simp [num]
  | cons y l ih' =>
    rw [List.cons_append, num, ih', num, List.length_cons, Nat.pow_succ]
    rw [Int.natCast_mul, Int.mul_add]
    simp only [Int.add_assoc]
    congr 2
    rw [← Int.mul_assoc, Int.mul_comm 256 x, Int.mul_assoc, Int.mul_comm 256]
    rfl
theorem num_bytes (v : Nat) : ∀ k, num (bytesTo v k) = ((v % 256 ^ k : Nat) : Int)
  | 0 => by simp [bytesTo, num, Nat.mod_one]
  | k + 1 => by
    rw [bytesTo_succ, num_snoc, num_bytes v k, bytesTo_len, Nat.mod_pow_succ]
    have e1 : (2 : Nat) ^ (8 * k) = 256 ^ k := by rw [show (256 : Nat) = 2 ^ 8 from rfl, ← Nat.pow_mul]
    have e2 : ((v : Int) / 2 ^ (8 * k)) = ((v / 256 ^ k : Nat) : Int) := by
      rw [← e1]; simp
    have e3 : IntKind.u8.wrap (((v / 256 ^ k : Nat) : Int)) = ((v / 256 ^ k % 256 : Nat) : Int) := by
      simp [IntKind.wrap, IntKind.bits, IntKind.signed]
    rw [e2, e3]
    simp [Int.mul_comm]
theorem sub_lay_same {bs xs : List Int} {a k : Nat} (hk : xs.length = k) (hl : a + xs.length ≤ bs.length) : sub (lay bs a xs) a k = xs := by
  apply List.ext_getElem?
  intro i
  unfold sub
  rw [List.getElem?_take, List.getElem?_drop, lay_get? _ _ _ _ hl]
  by_cases hi : i < k
  · rw [if_pos hi, if_neg (by omega), if_pos (by omega)]
    congr 1; omega
  · rw [if_neg hi, List.getElem?_eq_none (by omega)]
theorem sub_lay_other {bs xs : List Int} {a o k : Nat} (hl : a + xs.length ≤ bs.length) (hd : o + k ≤ a ∨ a + xs.length ≤ o) : sub (lay bs a xs) o k = sub bs o k := by
  apply List.ext_getElem?
  intro i
  unfold sub
  rw [List.getElem?_take, List.getElem?_drop, List.getElem?_take, List.getElem?_drop]
  by_cases hi : i < k
  · rw [if_pos hi, if_pos hi, lay_get? _ _ _ _ hl]
    rcases hd with h | h
    · rw [if_pos (by omega)]
    · rw [if_neg (by omega), if_neg (by omega)]
  · rw [if_neg hi, if_neg hi]
theorem ldV_num {bs : List Int} (hb : Byt bs) {a : Nat} (ha : a + 8 ≤ bs.length) : ((ldV bs a : Nat) : Int) = num (sub bs a 8) := by
  rw [← (ld_lt hb ha).1, or_num bs a 8 (by omega) ha hb]
theorem ldV_same {bs : List Int} (hb : Byt bs) {a v : Nat} (ha : a + 8 ≤ bs.length) (hv : v < 18446744073709551616) : ldV (lay bs a (bytesTo v 8)) a = v := by
  have hl : a + (bytesTo v 8).length ≤ bs.length := by rw [bytesTo_len]; exact ha
  have h1 := ldV_num (hb.lay (bytesTo_byt v 8) hl) (a := a) (by rw [lay_len _ _ _ hl]; exact ha)
  rw [sub_lay_same (bytesTo_len _ _) hl, num_bytes, show (256 : Nat) ^ 8 = 18446744073709551616 from rfl, Nat.mod_eq_of_lt hv] at h1
  omega
theorem ldV_other {bs : List Int} (hb : Byt bs) {a o : Nat} {v : Int} (ha : a + 8 ≤ bs.length) (ho : o + 8 ≤ bs.length) (hd : o + 8 ≤ a ∨ a + 8 ≤ o) : ldV (lay bs a (bytesTo v 8)) o = ldV bs o := by
  have hl : a + (bytesTo v 8).length ≤ bs.length := by rw [bytesTo_len]; exact ha
  have h1 := ldV_num (hb.lay (bytesTo_byt v 8) hl) (a := o) (by rw [lay_len _ _ _ hl]; exact ho)
  rw [sub_lay_other hl (by rw [bytesTo_len]; exact hd), ← ldV_num hb ho] at h1
  omega
/-- The slots that follow each other from a place on. -/
def Chain (x : Sn) (bs : List Int) : Int → List Nat → Prop
  | a, [] => a = -1
  | a, k :: L => a = (k : Int) ∧ ∃ nx, nextO x bs k = some nx ∧ Chain x bs nx L
theorem walk_chain (x : Sn) (bs : List Int) : ∀ (n : Nat) (a : Int) (seen L : List Nat), walkGo x bs n a seen = some L ↔ ∃ M, L = seen ++ M ∧ M.length = n ∧ Chain x bs a M ∧ M.Nodup ∧ ∀ m ∈ M, m ∉ seen
  | 0, a, seen, L => by
    unfold walkGo
    constructor
    · intro h
      split at h
      · rename_i ha
        cases h
        exact ⟨[], by simp, rfl, ha, List.nodup_nil, by simp⟩
      · cases h
    · rintro ⟨M, rfl, hM, hc, _⟩
      obtain rfl := List.length_eq_zero_iff.1 hM
      rw [if_pos (show a = -1 from hc), List.append_nil]
  | n + 1, a, seen, L => by
    unfold walkGo
    by_cases ha : a < 0
    · rw [if_pos ha]
      refine ⟨fun h => (by cases h), ?_⟩
      rintro ⟨M, rfl, hM, hc, _⟩
      cases M with
      | nil => cases hM
      | cons k M =>
        have := hc.1
        omega
    · rw [if_neg ha]
      obtain ⟨s, rfl⟩ := Int.eq_ofNat_of_zero_le (show 0 ≤ a by omega)
      rw [Int.toNat_natCast]
      cases hnx : nextO x bs s with
      | none =>
        refine ⟨fun h => (by cases h), ?_⟩
        rintro ⟨M, rfl, hM, hc, _⟩
        cases M with
        | nil => cases hM
        | cons k M =>
          obtain ⟨h1, nx, h2, _⟩ := hc
          obtain rfl : s = k := by omega
          rw [hnx] at h2
          cases h2
      | some nx =>
        show (if s ∈ seen then none else walkGo x bs n nx (seen ++ [s])) = some L ↔ _
        by_cases hin : s ∈ seen
        · rw [if_pos hin]
          refine ⟨fun h => (by cases h), ?_⟩
          rintro ⟨M, rfl, hM, hc, _, hs⟩
          cases M with
          | nil => cases hM
          | cons k M =>
            have h1 := hc.1
            obtain rfl : s = k := by omega
            exact absurd hin (hs s (by simp))
        · rw [if_neg hin, walk_chain x bs n nx (seen ++ [s]) L]
          constructor
          · rintro ⟨M, rfl, hM, hc, hn, hs⟩
            refine ⟨s :: M, by simp, by simp [hM], ⟨rfl, nx, hnx, hc⟩, List.nodup_cons.2 ⟨fun h => hs s h (by simp), hn⟩, fun m hm => ?_⟩
            rcases List.mem_cons.1 hm with rfl | hm
            · exact hin
            · exact fun h => hs m hm (by simp [h])
          · rintro ⟨M, rfl, hM, hc, hn, hs⟩
            cases M with
            | nil => cases hM
            | cons k M =>
              obtain ⟨h1, nx2, h2, h3⟩ := hc
              obtain rfl : s = k := by omega
              rw [hnx] at h2
              cases h2
              refine ⟨M, by simp, by simpa using hM, h3, (List.nodup_cons.1 hn).2, fun m hm h => ?_⟩
              rcases List.mem_append.1 h with h | h
              · exact hs m (by simp [hm]) h
              · obtain rfl : m = s := by simpa using h
                exact (List.nodup_cons.1 hn).1 hm
structure ListOf (x : Sn) (bs : List Int) (L : List Nat) : Prop where
  ch : Chain x bs x.head L
  nd : L.Nodup
  len : L.length = x.cnt
theorem listO_iff {x : Sn} {bs : List Int} {L : List Nat} : listO x bs = some L ↔ ListOf x bs L := by
  unfold listO
  rw [walk_chain]
  constructor
  · rintro ⟨M, rfl, h1, h2, h3, _⟩
    exact ⟨h2, h3, h1⟩
  · rintro ⟨h1, h2, h3⟩
    exact ⟨L, rfl, h3, h1, h2, by simp⟩
theorem chain_lt {x : Sn} {bs : List Int} : ∀ {L : List Nat} {a : Int}, a < x.n → Chain x bs a L → ∀ m ∈ L, m < x.n
  | [], _, _, _, m, hm => by simp at hm
  | k :: L, a, ha, hc, m, hm => by
    obtain ⟨h1, nx, h2, h3⟩ := hc
    rcases List.mem_cons.1 hm with rfl | hm
    · omega
    · exact chain_lt (next_lt h2).2 h3 m hm
theorem ListOf.lt {x : Sn} {bs : List Int} {L : List Nat} (h : ListOf x bs L) (hok : OkN x bs) : ∀ m ∈ L, m < x.n := chain_lt hok.h2 h.ch
theorem chain_of {x y : Sn} {bs bs' : List Int} : ∀ {L : List Nat} {a : Int}, (∀ k ∈ L, nextO y bs' k = nextO x bs k) → Chain x bs a L → Chain y bs' a L
  | [], _, _, hc => hc
  | k :: L, a, h, hc => by
    obtain ⟨h1, nx, h2, h3⟩ := hc
    exact ⟨h1, nx, by rw [h k (by simp)]; exact h2, chain_of (fun m hm => h m (by simp [hm])) h3⟩
theorem nodup_le : ∀ (n : Nat) (L : List Nat), L.Nodup → (∀ m ∈ L, m < n) → L.length ≤ n
  | 0, L, _, h => by
    cases L with
    | nil => simp
    | cons k L => exact absurd (h k (by simp)) (by omega)
  | n + 1, L, hn, h => by
    by_cases hin : n ∈ L
    · have h1 := nodup_le n (L.erase n) (hn.erase n) fun m hm => by
        have h2 := (hn.mem_erase_iff).1 hm
        have := h m h2.2
        have := h2.1
        omega
      rw [List.length_erase_of_mem hin] at h1
      omega
    · have h1 := nodup_le n L hn fun m hm => by
        have := h m hm
        have : m ≠ n := fun e => hin (e ▸ hm)
        omega
      omega
/-- The bytes behind a push, and the slab. -/
def layB (x : Sn) (bs : List Int) (s : Nat) : List Int := lay bs (x.b + s * x.z) (bytesTo (wordV s x.head x.c) 8)
def pushX (x : Sn) (s : Nat) : Sn := { x with head := s, cnt := x.cnt + 1 }
section
variable {x : Sn} {bs : List Int} (h : OkN x bs)
include h
theorem OkN.fit {s : Nat} (hs : s < x.n) : x.b + s * x.z + 8 ≤ bs.length := by
  have h1 := h.at_ hs
  have h2 := h.hi
  have h3 := h.z1
  omega
theorem OkN.word {s : Nat} (hs : s < x.n) : wordB s x.head x.c = true := by
  have h1 := h.many.1
  have h2 := h.h1
  have h3 := h.h2
  have h4 := h.cl
  exact wordB_iff.2 ⟨by omega, by omega, by omega⟩
theorem layB_len {s : Nat} (hs : s < x.n) : (layB x bs s).length = bs.length := lay_len _ _ _ (by rw [bytesTo_len]; exact h.fit hs)
theorem layB_byt {s : Nat} (hs : s < x.n) : Byt (layB x bs s) := h.byt.lay (bytesTo_byt _ _) (by rw [bytesTo_len]; exact h.fit hs)
theorem nextO_self {s : Nat} (hs : s < x.n) : nextO x (layB x bs s) s = some x.head := by
  obtain ⟨w, hw, hlt, h1, h2, h3, h4⟩ := word_of (h.word hs)
  have hld : ldV (layB x bs s) (x.b + s * x.z) = w := by
    unfold layB
    rw [hw]
    exact ldV_same h.byt (h.fit hs) hlt
  rw [nextO_of hld, h4, h2]
  have e1 : slotOf w = s := by omega
  have e2 : classOf w = x.c := by omega
  rw [e1, e2]
  simp [h.h2]
theorem nextO_other {s t : Nat} (hs : s < x.n) (ht : t < x.n) (hne : t ≠ s) : nextO x (layB x bs s) t = nextO x bs t := by
  have h1 := h.z1
  have hld : ldV (layB x bs s) (x.b + t * x.z) = ldV bs (x.b + t * x.z) := by
    refine ldV_other h.byt (h.fit hs) (h.fit ht) ?_
    rcases Nat.lt_or_gt_of_ne hne with e | e
    · have := Nat.mul_le_mul_right x.z (show t + 1 ≤ s from e)
      rw [Nat.succ_mul] at this
      omega
    · have := Nat.mul_le_mul_right x.z (show s + 1 ≤ t from e)
      rw [Nat.succ_mul] at this
      omega
  rw [nextO_of hld, nextO_of rfl]
theorem push_list {s : Nat} (hs : s < x.n) {L : List Nat} (hL : ListOf x bs L) (hin : s ∉ L) : ListOf (pushX x s) (layB x bs s) (s :: L) := by
  refine ⟨⟨rfl, x.head, nextO_self h hs, chain_of (x := x) (bs := bs) (fun k hk => ?_) hL.ch⟩, List.nodup_cons.2 ⟨hin, hL.nd⟩, by rw [List.length_cons, hL.len]; rfl⟩
  exact nextO_other h hs (hL.lt h k hk) fun e => hin (e ▸ hk)
theorem push_ok {s : Nat} (hs : s < x.n) {L : List Nat} (hL : ListOf x bs L) (hin : s ∉ L) : OkN (pushX x s) (layB x bs s) := by
  have h1 := nodup_le x.n (s :: L) (List.nodup_cons.2 ⟨hin, hL.nd⟩) fun m hm => by
    rcases List.mem_cons.1 hm with rfl | hm
    · exact hs
    · exact hL.lt h m hm
  rw [List.length_cons, hL.len] at h1
  refine ⟨by rw [layB_len h hs]; exact h.hi, by rw [layB_len h hs]; exact h.sm, layB_byt h hs, h.cl, h.z1, h.z2, h.nz, ?_, ?_, h1⟩
  · show (-1 : Int) ≤ (s : Int)
    omega
  · show (s : Int) < (x.n : Int)
    omega
end
/-- A slot is taken off. -/
def popX (x : Sn) (bs : List Int) : Sn := { x with head := (nextO x bs x.head.toNat).getD 0, cnt := x.cnt - 1 }
theorem pop_list {x : Sn} {bs : List Int} {k : Nat} {L : List Nat} (h : OkN x bs) (hL : ListOf x bs (k :: L)) : x.head = (k : Int) ∧ k < x.n ∧ nextO x bs k = some (popX x bs).head ∧ ListOf (popX x bs) bs L ∧ OkN (popX x bs) bs ∧ (popX x bs).cnt + 1 = x.cnt := by
  obtain ⟨h1, nx, h2, h3⟩ := hL.ch
  have hn := hL.lt h k (by simp)
  have hlen := hL.len
  rw [List.length_cons] at hlen
  have hh : (popX x bs).head = nx := by
    show (nextO x bs x.head.toNat).getD 0 = nx
    rw [h1, Int.toNat_natCast, h2]
    rfl
  have hc : (popX x bs).cnt = x.cnt - 1 := rfl
  refine ⟨h1, hn, by rw [hh]; exact h2, ⟨?_, (List.nodup_cons.1 hL.nd).2, by omega⟩, ⟨h.hi, h.sm, h.byt, h.cl, h.z1, h.z2, h.nz, by rw [hh]; exact (next_lt h2).1, by rw [hh]; exact (next_lt h2).2, ?_⟩, by omega⟩
  · rw [hh]
    exact chain_of (x := x) (bs := bs) (fun k hk => rfl) h3
  · have := h.ct
    show (popX x bs).cnt ≤ x.n
    omega
end Go.Proofs.Ytloflnachpjlgaa.New
