/- OnesCount64 and TrailingZeros64 walked. -/
import Derived.Test.YtknieebmcpgppaaDoorProg
import Derived.Test.YtknieebmcpgppaaDoorAidApp
import Derived.Test.YtknieebmcpgppaaDoorBitQ
import Derived.Outline
namespace Go.Proofs.YtknieebmcpgppaaDoor.Bit
open Go.RowKit Go.Proofs.YtknieebmcpgppaaDoor.Aid
theorem ones_core (x y1 y2 y3 y4 y5 y6 y7 r : Int) (w : World) (h6 : 0 ≤ y6) (h6' : y6 ≤ 9223372036854775807)
    (e1 : IntKind.u64.wrap (Go.bits .and .u64 (x / 2) 6148914691236517205 + Go.bits .and .u64 x 6148914691236517205) = y1)
    (e2 : IntKind.u64.wrap (Go.bits .and .u64 (y1 / 4) 3689348814741910323 + Go.bits .and .u64 y1 3689348814741910323) = y2)
    (e3 : IntKind.u64.wrap (y2 / 16 + y2) = y7) (e3' : Go.bits .and .u64 y7 1085102592571150095 = y3) (e4 : IntKind.u64.wrap (y3 + y3 / 256) = y4) (e5 : IntKind.u64.wrap (y4 + y4 / 65536) = y5) (e6 : IntKind.u64.wrap (y5 + y5 / 4294967296) = y6)
    (e7 : Go.bits .and .i64 y6 127 = r) :
    Calls Tryd.prog 54 #[.int .u64 x] w fun e w' => e = .returned (.int .i64 r) ∧ w = w' := by
  go_enter Tryd.func54, Tryd.ntmps54
  go_wp2
  go_ret
  exact ⟨rfl, rfl⟩
theorem u64_and_nat (x y : Nat) (hx : x < 18446744073709551616) : Go.bits .and .u64 (x : Int) (y : Int) = ((x &&& y : Nat) : Int) := by
  apply R_inj (R_bits _ _ _)
  · unfold R
    have := Nat.and_le_left (n := x) (m := y)
    omega
  · rw [B_and, B_nat, B_nat, B_nat, BitVec.ofNat_and]
theorem u64_small (x : Nat) (h : x < 18446744073709551616) : IntKind.u64.wrap (x : Int) = (x : Int) := by rw [u64_wrap]; omega
theorem ones_calls (x : Nat) (w : World) (h : x < 18446744073709551616) :
    Calls Tryd.prog 54 #[.int .u64 (x : Int)] w fun e w' => e = .returned (.int .i64 ((cnt x.testBit 64 : Nat) : Int)) ∧ w = w' := by
  obtain ⟨y1, y2, y7, y3, y4, y5, y6, e1, e2, e3, e3', e4, e5, e6, e7, b1, b2, b7, b6, b4, b5, b3⟩ := ones_stages x h
  refine ones_core x y1 y2 y3 y4 y5 y6 y7 _ w (by omega) (by omega) ?_ ?_ ?_ ?_ ?_ ?_ ?_ ?_
  · rw [show ((x : Int) / 2) = ((x / 2 : Nat) : Int) from rfl, show (6148914691236517205 : Int) = ((6148914691236517205 : Nat) : Int) from rfl, u64_and_nat _ _ (by omega), u64_and_nat _ _ h, ← Int.natCast_add, e1, u64_small _ b1]
  · rw [show ((y1 : Int) / 4) = ((y1 / 4 : Nat) : Int) from rfl, show (3689348814741910323 : Int) = ((3689348814741910323 : Nat) : Int) from rfl, u64_and_nat _ _ (by omega), u64_and_nat _ _ b1, ← Int.natCast_add, e2, u64_small _ b2]
  · rw [show ((y2 : Int) / 16) = ((y2 / 16 : Nat) : Int) from rfl, ← Int.natCast_add, e3, u64_small _ b7]
  · rw [show (1085102592571150095 : Int) = ((1085102592571150095 : Nat) : Int) from rfl, u64_and_nat _ _ b7, e3']
  · rw [show ((y3 : Int) / 256) = ((y3 / 256 : Nat) : Int) from rfl, ← Int.natCast_add, e4, u64_small _ (by omega)]
  · rw [show ((y4 : Int) / 65536) = ((y4 / 65536 : Nat) : Int) from rfl, ← Int.natCast_add, e5, u64_small _ (by omega)]
  · rw [show ((y5 : Int) / 4294967296) = ((y5 / 4294967296 : Nat) : Int) from rfl, ← Int.natCast_add, e6, u64_small _ (by omega)]
  · rw [show (127 : Int) = ((127 : Nat) : Int) from rfl, i64_and_nat _ _ b6 (by omega), show (127 : Nat) = 2 ^ 7 - 1 from rfl, Nat.and_two_pow_sub_one_eq_mod, show (2 : Nat) ^ 7 = 128 from rfl, e7]
/-- The table of math/bits. -/
def Tab (w : World) : Prop := 0 < w.heap.size ∧ ∀ j, j < Lib.deBruijn64tab.length → w.cell? ⟨0, j, none⟩ = some (.int .u8 (Lib.deBruijn64tab.getD j 0 : Nat))
theorem Tab.block {w w' : World} (h : Tab w) (hs : w.heap.size ≤ w'.heap.size) (hb : w'.heap[0]? = w.heap[0]?) : Tab w' :=
  ⟨Nat.lt_of_lt_of_le h.1 hs, fun j hj => (World.cell?_of_block (w := w) (a := ⟨0, j, none⟩) hb).trans (h.2 j hj)⟩
theorem Tab.below {w w' : World} (h : Tab w) (k : Below w.heap.size w w') : Tab w' := h.block k.size (k.block 0 h.1)
theorem Tab.kept {w w' : World} {F : List Nat} (h : Tab w) (k : Kept F w w') (h0 : 0 ∉ F) : Tab w' := h.block k.size (k.block 0 h.1 h0)
theorem Tab.drewN {w : World} (h : Tab w) (n : Nat) : Tab (w.drewN n) := h
theorem Tab.alloc {w : World} (h : Tab w) (o : Obj) : Tab (w.alloc o) := h.below ((Below.refl _ _).alloc (Nat.le_refl _) o)
theorem tz_core (x k idx : Nat) (w : World) (hx0 : ((x : Int) == 0) = false)
    (key : IntKind.u64.wrap (Go.bits BinOp.and IntKind.u64 (x : Int) (IntKind.u64.wrap (-(x : Int))) * 285870213051353865) / 288230376151711744 = (idx : Int))
    (hi : idx < 64) (hk : k < 64) (hcell : w.cell? ⟨0, idx, none⟩ = some (.int .u8 (k : Int))) :
    Calls Tryd.prog 55 #[.int .u64 (x : Int)] w fun e w' => e = .returned (.int .i64 (k : Int)) ∧ w = w' := by
  go_enter Tryd.func55, Tryd.ntmps55
  go_wp2_with (simp only [key])
  go_ret
  exact ⟨rfl, rfl⟩
theorem tz_zero (w : World) : Calls Tryd.prog 55 #[.int .u64 0] w fun e w' => e = .returned (.int .i64 64) ∧ w = w' := by
  go_enter Tryd.func55, Tryd.ntmps55
  go_wp2
  go_ret
  exact ⟨rfl, rfl⟩
theorem tz_key (x a : Nat) (hx : x < 18446744073709551616) (hx0 : x ≠ 0) (hlow : x &&& (18446744073709551616 - x) = a) :
    IntKind.u64.wrap (Go.bits BinOp.and IntKind.u64 (x : Int) (IntKind.u64.wrap (-(x : Int))) * 285870213051353865) / 288230376151711744 = ((a * 285870213051353865 % 18446744073709551616 / 288230376151711744 : Nat) : Int) := by
  have e1 : IntKind.u64.wrap (-(x : Int)) = ((18446744073709551616 - x : Nat) : Int) := by rw [u64_wrap]; omega
  rw [e1, u64_and_nat x _ hx, hlow, u64_wrap]
  omega
/-- The least set bit. -/
theorem tz_calls (x : Nat) (w : World) (hx : x < 18446744073709551616) (hT : Tab w) :
    Calls Tryd.prog 55 #[.int .u64 (x : Int)] w fun e w' => e = .returned (.int .i64 ((Lib.ctz 64 x : Nat) : Int)) ∧ w = w' := by
  by_cases hx0 : x = 0
  · subst hx0
    exact tz_zero w
  · obtain ⟨hlow, hk⟩ := Lib.lowest_bit 64 x hx0 hx
    obtain ⟨hi, htab⟩ := Lib.deBruijn64_at _ hk
    have hcell := hT.2 _ (by exact hi)
    rw [htab] at hcell
    exact tz_core x _ _ w (by simp; omega) (tz_key x _ hx hx0 hlow) hi hk hcell
end Go.Proofs.YtknieebmcpgppaaDoor.Bit
