/- SpansCalls at every input. -/
import Derived.Test.YtldlogmjkbhomaaSpaMb
set_option linter.unusedSimpArgs false
namespace Go.Proofs.Ytldlogmjkbhomaa.Spa
open Go.RowKit Go.Proofs.Ytldlogmjkbhomaa.Aid
set_option maxRecDepth 100000 in
theorem calls_calls (w : World) (P : Int) (xs : List Cl) (A : Option Addr) (c : Nat) (ask al : Int) (hx : Cls w A xs) (_hl : xs.length ≤ maxLen) :
    Calls Try.prog 9 #[.int .i64 P, .slice A xs.length c, .int .i64 ask, .int .i64 al] w fun e w' => e = .returned (.bool true) ∧ Below w.heap.size w w' := by
  have HG := Lib.hid (fun W : World => great_calls W P A xs.length c)
  by_cases hg : 200 < P ∨ 100 < xs.length
  · rw [show (decide ((200 : Int) < P) || decide (100 < xs.length)) = true by rcases hg with h | h <;> simp [h]] at HG
    clear hx hg
    go_enter Try.func9, Try.ntmps9
    go_wp2_with fail
    refine (alive_calls w).mono ?_
    rintro e w1 ⟨rfl, hb1⟩
    have HB1 := Lib.hid hb1
    clear hb1
    go_wp2_with fail
    refine (HG.out w1).mono ?_
    rintro e w2 ⟨rfl, rfl⟩
    go_wp2_with fail
    go_ret
    exact ⟨rfl, HB1.out⟩
  · by_cases h0 : P < 0
    · rw [show (decide ((200 : Int) < P) || decide (100 < xs.length)) = false by simp; omega] at HG
      clear hx hg
      go_enter Try.func9, Try.ntmps9
      go_wp2_with fail
      refine (alive_calls w).mono ?_
      rintro e w1 ⟨rfl, hb1⟩
      have HB1 := Lib.hid hb1
      clear hb1
      go_wp2_with fail
      refine (HG.out w1).mono ?_
      rintro e w2 ⟨rfl, rfl⟩
      go_wp2_with fail
      refine (new_no w1 P (.inl h0)).mono ?_
      rintro e w2 ⟨rfl, rfl⟩
      go_wp2_with fail
      refine (rnew_no w1 P (.inl h0)).mono ?_
      rintro e w2 ⟨rfl, rfl⟩
      go_wp2_with fail
      go_ret
      exact ⟨rfl, HB1.out⟩
    · obtain ⟨n, rfl⟩ := Int.eq_ofNat_of_zero_le (show 0 ≤ P by omega)
      exact calls_yes w n xs A c ask al hx (by omega) (by omega)
end Go.Proofs.Ytldlogmjkbhomaa.Spa
