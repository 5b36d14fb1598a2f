/- Rows of records: copy as a run, append of fresh ones as a run, and what two copies leave. Nothing of the program stands here. -/
import Derived.Test.YtldlogmjkbhomaaAidRecs
import Derived.Test.YtldlogmjkbhomaaAidObj
import Derived.Test.YtldlogmjkbhomaaAidI64
import Derived.Deep.AppendSrc
import Derived.Laws.IdiomCopy
namespace Go.Proofs.Ytldlogmjkbhomaa.Aid
open Go.RowKit
/-- copy, of elements of several cells. -/
theorem run_copy_recs {P : Program} (w : World) (dT sT ty elem : TypeId) (z b o dLen dCap : Nat) (a : Addr) (sLen sCap n : Nat) (cs : List Value)
    (hu : P.underlying dT = some (.slice elem)) (hs : (P.info? elem).map (·.size) = some z) (hm : min sLen dLen = n) (hn : cs.length = n * z)
    (hsrc : ∀ j v, cs[j]? = some v → w.cell? (a.add j) = some v) (hth : w.there b o cs.length) (h1 : ∀ v ∈ cs, v.oneCell' = true) :
    (Builtin.copy_ #[dT, sT] ty #[.slice (some ⟨b, o, none⟩) dLen dCap, .slice (some a) sLen sCap]).run P w = .ok (goInt n) (w.setCells b o cs) := by
  have hm' : Nat.min sLen dLen = n := hm
  have hl := run_loadCells_list (P := P) w a cs hsrc
  have hst := run_storeCells_cells (P := P) b o cs 0 w (by simpa using fun j hj => (hth j hj).1) (by simpa using fun j hj => (hth j hj).2) h1
  cases hq : P.info? elem with
  | none => simp [hq] at hs
  | some i =>
    have hi : i.size = z := by simpa [hq] using hs
    simp [Builtin.copy_, run_underlying hu, Builtin.lenOf, Builtin.firstCells, sizeOf, typeInfo, hq, hi, hm', ← hn, hl, hst]
/-- append of fresh elements where there is no room: a new row. -/
theorem run_append_zeros {P : Program} (w : World) (t ti ty e : TypeId) (i : TypeInfo) (z : Value) (ht : P.underlying t = some (.slice e)) (hti : P.underlying ti = some (.int .i64)) (hi : P.info? e = some i) (hz : i.zero = some z) (base : Option Addr) (sLen sCap : Nat) (olds : List Value)
    (hold : (Builtin.firstCells i.size sLen (.slice base sLen sCap)).run P w.drew = .ok olds.toArray w.drew) (n : Nat) (h0 : n * i.size ≠ 0)
    (hg : sCap < sLen + n) (h63 : sLen + n ≤ 4611686018427387904) (hfit : Builtin.nextslicecap (sLen + n) sCap * i.bytes ≤ 281474976710656) (hfit2 : n * i.bytes ≤ 281474976710656) :
    (Builtin.append_ #[t, ti] ty #[.slice base sLen sCap, .int .i64 n]).run P w =
      .ok (.slice (some ⟨w.heap.size, 0, none⟩) (sLen + n) (grownCap w (sLen + n) sCap e))
        (w.drew.alloc (.cells (olds.toArray ++ Builtin.zeroCells z.cells n ++ Builtin.zeroCells z.cells (grownCap w (sLen + n) sCap e - (sLen + n))) e)) := by
  have hn : ¬ (sLen + n ≤ sCap) := by omega
  have h63' : ¬ (9223372036854775807 < ((sLen : Int) + (n : Int))) := by omega
  have h48' : ¬ (281474976710656 < Builtin.nextslicecap (sLen + n) sCap * i.bytes) := by omega
  have hw : IntKind.i64.wrap (n : Int) = (n : Int) := by rw [i64_wrap]; unfold wrap64; omega
  have hw0 : ¬ ((n : Int) < 0) := by omega
  have hw1 : ¬ ((281474976710656 : Int) < (n : Int) * (i.bytes : Int)) := by
    have : ((n * i.bytes : Nat) : Int) ≤ 281474976710656 := by omega
    rw [Int.natCast_mul] at this
    omega
  simp [Builtin.append_, run_underlying ht, run_underlying hti, sizeOf, typeInfo, zeroValue, asInt, asIntOf, hi, hz, hw, hw0, hw1, hn, h63', h48', Question.forced, hold, newRow, grownCap]
  exact fun h => absurd h h0
section
variable {α : Type} {enc : α → List Value} {z : Nat} {w w' : World} {e : TypeId} {g c : Nat} {xs ys : List α}
theorem Recs.of_blk {cur : Array Value} (hb : Blk w g cur e) (hs : cur.size = c * z) (ht : cur.toList.take (ys.length * z) = ys.flatMap enc) (hc : ys.length ≤ c) (hm : c ≤ maxLen) : Recs enc z w e g c ys := ⟨⟨cur, hb, hs, ht⟩, hc, hm⟩
end
/-- What two copies side by side leave. -/
theorem splice_take {β : Type} (C V D : List β) (a : Nat) (h : a + V.length + D.length ≤ C.length) : (lay (lay C (a + V.length) D) a V).take (a + V.length + D.length) = C.take a ++ (V ++ D) := by
  apply List.ext_getElem?
  intro k
  rw [List.getElem?_take]
  have l1 := lay_len C D (a + V.length) h
  by_cases hk : k < a + V.length + D.length
  · rw [if_pos hk, lay_get? _ _ _ _ (by omega)]
    by_cases h1 : k < a
    · rw [if_pos h1, lay_get? _ _ _ _ h, if_pos (by omega), List.getElem?_append_left (by rw [List.length_take]; omega), List.getElem?_take, if_pos h1]
    · rw [if_neg h1, List.getElem?_append_right (by rw [List.length_take]; omega), List.length_take, Nat.min_eq_left (by omega)]
      by_cases h2 : k < a + V.length
      · rw [if_pos h2, List.getElem?_append_left (by omega)]
      · rw [if_neg h2, lay_get? _ _ _ _ h, if_neg h2, if_pos hk, List.getElem?_append_right (by omega)]
        congr 1
        omega
  · rw [if_neg hk, List.getElem?_eq_none (by simp; omega)]
theorem splice_take2 {β : Type} (C V D : List β) (a : Nat) (h : a + V.length + D.length ≤ C.length) : (lay (lay C a V) (a + V.length) D).take (a + V.length + D.length) = C.take a ++ (V ++ D) := by
  apply List.ext_getElem?
  intro k
  rw [List.getElem?_take]
  have l1 := lay_len C V a (by omega)
  by_cases hk : k < a + V.length + D.length
  · rw [if_pos hk, lay_get? _ _ _ _ (by omega)]
    by_cases h1 : k < a
    · rw [if_pos (by omega), lay_get? _ _ _ _ (by omega), if_pos h1, List.getElem?_append_left (by rw [List.length_take]; omega), List.getElem?_take, if_pos h1]
    · rw [List.getElem?_append_right (by rw [List.length_take]; omega), List.length_take, Nat.min_eq_left (by omega)]
      by_cases h2 : k < a + V.length
      · rw [if_pos h2, lay_get? _ _ _ _ (by omega), if_neg h1, if_pos h2, List.getElem?_append_left (by omega)]
      · rw [if_neg h2, if_pos hk, List.getElem?_append_right (by omega)]
        congr 1
        omega
  · rw [if_neg hk, List.getElem?_eq_none (by simp; omega)]
end Go.Proofs.Ytldlogmjkbhomaa.Aid
