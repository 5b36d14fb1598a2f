/- The contracts of the reference of layer 1 (package underpinref01) on single words: what each call returns, and that it leaves old memory alone. -/
import Derived.Test.YtloflnachpjlgaaProg
import Derived.Test.YtloflnachpjlgaaAidMem
import Derived.Test.YtloflnachpjlgaaPackA
import Derived.Test.YtloflnachpjlgaaAidBits
import Derived.Outline
namespace Go.Proofs.Ytloflnachpjlgaa.Pack
open Go.RowKit Go.Proofs.Ytloflnachpjlgaa.Aid
def rrightB (s n : Int) : Bool := decide (1 ≤ n ∧ n ≤ 64 ∧ 0 ≤ s ∧ s ≤ 63 ∧ s + n ≤ 64)
theorem rrightB_true {s n : Int} (h : rrightB s n = true) : 1 ≤ n ∧ n ≤ 64 ∧ 0 ≤ s ∧ s ≤ 63 ∧ s + n ≤ 64 := by simpa [rrightB] using h
def bitV (x n : Int) : Int := Go.bits .and .u64 (x / 2 ^ n.toNat) 1
/-- What ref.Get gathers: d rounds from i on. -/
def getGo (x s : Int) : Nat → Int → Int → Int
  | 0, _, o => o
  | d + 1, i, o => getGo x s d (i + 1) (Go.bits .or .u64 o (IntKind.u64.wrap (bitV x (s + i) * 2 ^ i.toNat)))
theorem getGo_end (x s o : Int) {d : Nat} {i n : Int} (hd : n - i = d) (h : ¬ i < n) : getGo x s d i o = o := by
  obtain rfl : d = 0 := by omega
  rfl
/-- What ref.above tells: d rounds from i on. -/
def aboveGo (x : Int) : Nat → Int → Bool
  | 0, _ => false
  | d + 1, i => bitV x i == 1 || aboveGo x d (i + 1)
theorem aboveGo_end (x : Int) {d : Nat} {i n : Int} (hd : n - i = d) (h : ¬ i < n) : aboveGo x d i = false := by
  obtain rfl : d = 0 := by omega
  rfl
/-- What ref.Put gathers: d rounds from i on. -/
def putGo (x s n v : Int) : Nat → Int → Int → Int
  | 0, _, o => o
  | d + 1, i, o => putGo x s n v d (i + 1) (Go.bits .or .u64 o (IntKind.u64.wrap ((if s ≤ i ∧ i < s + n then bitV v (i - s) else bitV x i) * 2 ^ i.toNat)))
theorem putGo_end (x s n v o : Int) {d : Nat} {i m : Int} (hd : m - i = d) (h : ¬ i < m) : putGo x s n v d i o = o := by
  obtain rfl : d = 0 := by omega
  rfl
theorem putGo_in {x s n v o : Int} {d : Nat} {i : Int} (h : s ≤ i ∧ i < s + n) : putGo x s n v (d + 1) i o = putGo x s n v d (i + 1) (Go.bits .or .u64 o (IntKind.u64.wrap (bitV v (i - s) * 2 ^ i.toNat))) := by
  simp only [putGo, if_pos h]
theorem putGo_out {x s n v o : Int} {d : Nat} {i : Int} (h : ¬ (s ≤ i ∧ i < s + n)) : putGo x s n v (d + 1) i o = putGo x s n v d (i + 1) (Go.bits .or .u64 o (IntKind.u64.wrap (bitV x i * 2 ^ i.toNat))) := by
  simp only [putGo, if_neg h]
/-- What ref.Cut gathers: d rounds from i on. -/
def cutGo (v n : Int) (sg : Bool) : Nat → Int → Int → Int
  | 0, _, o => o
  | d + 1, i, o => cutGo v n sg d (i + 1) (Go.bits .or .u64 o (IntKind.u64.wrap ((if i < n then bitV v i else if sg then bitV v (n - 1) else 0) * 2 ^ i.toNat)))
theorem cutGo_end (v n o : Int) (sg : Bool) {d : Nat} {i m : Int} (hd : m - i = d) (h : ¬ i < m) : cutGo v n sg d i o = o := by
  obtain rfl : d = 0 := by omega
  rfl
theorem cutGo_in {v n o : Int} {sg : Bool} {d : Nat} {i : Int} (h : i < n) : cutGo v n sg (d + 1) i o = cutGo v n sg d (i + 1) (Go.bits .or .u64 o (IntKind.u64.wrap (bitV v i * 2 ^ i.toNat))) := by
  simp only [cutGo, if_pos h]
theorem cutGo_sg {v n o : Int} {d : Nat} {i : Int} (h : ¬ i < n) : cutGo v n true (d + 1) i o = cutGo v n true d (i + 1) (Go.bits .or .u64 o (IntKind.u64.wrap (bitV v (n - 1) * 2 ^ i.toNat))) := by
  simp only [cutGo, if_neg h, if_true]
theorem cutGo_un {v n o : Int} {d : Nat} {i : Int} (h : ¬ i < n) : cutGo v n false (d + 1) i o = cutGo v n false d (i + 1) (Go.bits .or .u64 o 0) := by
  simp [cutGo, if_neg h, IntKind.wrap, IntKind.bits, IntKind.signed]
/-- What ref.Rotate gathers: d rounds from i on. -/
def turnGo (v n m : Int) : Nat → Int → Int → Int
  | 0, _, o => o
  | d + 1, i, o => turnGo v n m d (i + 1) (Go.bits .or .u64 o (IntKind.u64.wrap (bitV v i * 2 ^ ((i + m) % n).toNat)))
theorem turnGo_end (v n m o : Int) {d : Nat} {i j : Int} (hd : j - i = d) (h : ¬ i < j) : turnGo v n m d i o = o := by
  obtain rfl : d = 0 := by omega
  rfl
end Go.Proofs.Ytloflnachpjlgaa.Pack
