/- OnesCount64 and TrailingZeros64 walked. -/
import Derived.Test.YtloflnachpjlgaaProg
import Derived.Test.YtloflnachpjlgaaAidApp
import Derived.Test.YtloflnachpjlgaaBitQ
import Derived.Outline
namespace Go.Proofs.Ytloflnachpjlgaa.Bit
open Go.RowKit Go.Proofs.Ytloflnachpjlgaa.Aid
theorem u64_and_nat (x y : Nat) (hx : x < 18446744073709551616) : Go.bits .and .u64 (x : Int) (y : Int) = ((x &&& y : Nat) : Int) := by
  apply R_inj (R_bits _ _ _)
  · unfold R
    have := Nat.and_le_left (n := x) (m := y)
    omega
  · rw [B_and, B_nat, B_nat, B_nat, BitVec.ofNat_and]
theorem u64_small (x : Nat) (h : x < 18446744073709551616) : IntKind.u64.wrap (x : Int) = (x : Int) := by rw [u64_wrap]; omega
theorem tz_key (x a : Nat) (hx : x < 18446744073709551616) (hx0 : x ≠ 0) (hlow : x &&& (18446744073709551616 - x) = a) :
    IntKind.u64.wrap (Go.bits BinOp.and IntKind.u64 (x : Int) (IntKind.u64.wrap (-(x : Int))) * 285870213051353865) / 288230376151711744 = ((a * 285870213051353865 % 18446744073709551616 / 288230376151711744 : Nat) : Int) := by
  have e1 : IntKind.u64.wrap (-(x : Int)) = ((18446744073709551616 - x : Nat) : Int) := by rw [u64_wrap]; omega
  rw [e1, u64_and_nat x _ hx, hlow, u64_wrap]
  omega
end Go.Proofs.Ytloflnachpjlgaa.Bit
