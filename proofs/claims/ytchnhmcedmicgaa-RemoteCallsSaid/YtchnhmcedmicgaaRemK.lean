/- The walk of RemoteOrder at every input; arguments opened. -/
import Derived.Test.YtchnhmcedmicgaaRemJ
namespace Go.Proofs.Ytchnhmcedmicgaa.Rem
open Go.ChangeShapes Go.WideShapes Go.RowKit Go.Proofs.Ytchnhmcedmicgaa.Aid
set_option maxRecDepth 100000 in
theorem open_rcalls {H : Type} {enc : TypeId × Value → H} {W : World} {r : Reach} {b0 : Nat} {v : Value} {d : DataW H} {p : List MemPlace} (hv : Value.okWide Try.prog W r b0 80 v) (h : DataW.Trod enc Try.prog W 0 (fun _ => true) true 80 v d p) :
    ∃ (A : Option Addr) (c : Nat) (xs : List Q4), v = .slice A xs.length c ∧ xs.length ≤ maxLen ∧ QuadsW W A xs :=
  open_quadsW Try.underlying80 Try.underlying88 (by kernel_rfl) (by kernel_rfl) Try.underlying3 Try.underlying3 Try.underlying3 Try.underlying3 hv h
set_option maxRecDepth 8000 in
theorem order_walk (n : Int) (xs : List Q4) (A : Option Addr) (ca : Nat) {w : World} (hx : QuadsW w A xs) (_ : xs.length ≤ maxLen) :
    Calls Try.prog 9 #[.int .i64 n, .slice A xs.length ca] w fun e w' => e = .returned (.bool true) ∧ Below w.heap.size w w' := by
  by_cases hl : 200 < (xs.length : Int)
  · clear hx
    go_enter Try.func9, Try.ntmps9
    go_wp2_with fail
    refine (alive_calls w).mono ?_
    rintro e w1 ⟨rfl, hb1⟩
    go_wp2_with fail
    go_ret
    exact ⟨rfl, hb1⟩
  · by_cases h0 : 1 ≤ n ∧ n ≤ 64
    · obtain ⟨k, rfl⟩ := Int.eq_ofNat_of_zero_le (show 0 ≤ n by omega)
      exact order_yes w k A ca xs hx (by omega) (by omega) hl
    · have h0' := Lib.hid (show n < 1 ∨ 64 < n by omega)
      clear hx h0
      go_enter Try.func9, Try.ntmps9
      go_wp2_with fail
      refine (alive_calls w).mono ?_
      rintro e w1 ⟨rfl, hb1⟩
      go_wp2_with fail
      refine (begin_no w1 n h0'.out).mono ?_
      rintro e w2 ⟨rfl, rfl⟩
      go_wp2_with fail
      go_ret
      exact ⟨rfl, hb1⟩
end Go.Proofs.Ytchnhmcedmicgaa.Rem
