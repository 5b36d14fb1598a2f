/- The walk of LedgerCalls at every input; its array argument opened. -/
import Derived.Test.YtchnhmcedmicgaaLedU
import Derived.Test.YtchnhmcedmicgaaLedO
import Derived.Test.YtchnhmcedmicgaaAidArrO
namespace Go.Proofs.Ytchnhmcedmicgaa.Led
open Go.ChangeShapes Go.WideShapes Go.RowKit Go.Deep Go.Proofs.Ytchnhmcedmicgaa.Aid
set_option maxRecDepth 100000 in
theorem open_row8 {H : Type} {enc : TypeId × Value → H} {W : World} {r : Reach} {b0 : Nat} {v : Value} {d : DataW H} {p : List MemPlace}
    (hv : Value.okWide Try.prog W r b0 24 v) (h : DataW.Trod enc Try.prog W 0 (fun _ => true) true 24 v d p) : ∃ ask, v = .agg (rv ask) ∧ okL .i64 8 ask := by
  obtain ⟨xs, rfl, hx⟩ := open_nums hu8 huI hcI (by kernel_rfl) hv h
  exact ⟨xs, keL_rv xs hx.1, hx⟩
set_option maxRecDepth 100000 in
theorem calls_walk (w : World) (cap : Int) (A : Option Addr) (ca : Nat) (xs : List Q4) (kind : Int) (ask : List Int) (hx : Quads w A xs) (_ : xs.length ≤ maxLen) (hask : okL .i64 8 ask) :
    Calls Try.prog 3 #[.int .i64 cap, .slice A xs.length ca, .int .i64 kind, .agg (rv ask)] w fun e w' => e = .returned (.bool true) ∧ Below w.heap.size w w' := by
  have hb0 := (Below.refl w.heap.size w).alloc (Nat.le_refl _) (.cells (rv ask) 24)
  by_cases hl : 200 < (xs.length : Int)
  · clear hx
    unfold rv at hb0 ⊢
    go_enter Try.func3, Try.ntmps3
    go_wp2_with fail
    refine (alive_calls _).mono ?_
    rintro e w1 ⟨rfl, hb1⟩
    go_wp2_with fail
    go_ret
    exact ⟨rfl, below_then hb0 hb1⟩
  · by_cases h0 : 0 ≤ cap
    · by_cases h1 : cap ≤ 1099511627776
      · exact calls_yes w cap A ca xs kind ask hx hask h0 h1 hl
      · have h1' : 1099511627776 < cap := by omega
        clear hx h1
        unfold rv at hb0 ⊢
        go_enter Try.func3, Try.ntmps3
        go_wp2_with fail
        refine (alive_calls _).mono ?_
        rintro e w1 ⟨rfl, hb1⟩
        go_wp2_with fail
        refine (new_no w1 cap (.inr h1')).mono ?_
        rintro e w2 ⟨rfl, rfl⟩
        go_wp2_with fail
        refine (rnew_no w1 cap (.inr h1')).mono ?_
        rintro e w2 ⟨rfl, rfl⟩
        go_wp2_with fail
        go_ret
        exact ⟨rfl, below_then hb0 hb1⟩
    · have h0' : cap < 0 := by omega
      clear hx h0
      unfold rv at hb0 ⊢
      go_enter Try.func3, Try.ntmps3
      go_wp2_with fail
      refine (alive_calls _).mono ?_
      rintro e w1 ⟨rfl, hb1⟩
      go_wp2_with fail
      refine (new_no w1 cap (.inl h0')).mono ?_
      rintro e w2 ⟨rfl, rfl⟩
      go_wp2_with fail
      refine (rnew_no w1 cap (.inl h0')).mono ?_
      rintro e w2 ⟨rfl, rfl⟩
      go_wp2_with fail
      go_ret
      exact ⟨rfl, below_then hb0 hb1⟩
end Go.Proofs.Ytchnhmcedmicgaa.Led
