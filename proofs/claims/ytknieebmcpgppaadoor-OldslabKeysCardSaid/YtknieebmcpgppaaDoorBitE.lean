/- The contract of package bits' Run, and of List. -/
import Derived.Test.YtknieebmcpgppaaDoorBitD
import Derived.Deep.LoopGhost
namespace Go.Proofs.YtknieebmcpgppaaDoor.Bit
open Go.RowKit Go.Proofs.YtknieebmcpgppaaDoor.Aid
def ClearAt (l : List Bool) (i n : Nat) : Prop := ∀ j, i ≤ j → j < i + n → l.getD j false = false
def clearB (l : List Bool) (i n : Nat) : Bool := (List.range n).all fun d => !l.getD (i + d) false
theorem clearB_iff (l : List Bool) (i n : Nat) : clearB l i n = true ↔ ClearAt l i n := by
  unfold clearB ClearAt
  rw [List.all_eq_true]
  constructor
  · intro h j h1 h2
    have := h (j - i) (by simp; omega)
    rw [show i + (j - i) = j by omega] at this
    simpa using this
  · intro h d hd
    have := h (i + d) (by omega) (by simp at hd; omega)
    simp only [this]; rfl
def runGo (l : List Bool) (n : Nat) : Nat → Nat → Int
  | 0, _ => -1
  | f + 1, i => if clearB l i n = true then (i : Int) else runGo l n f (i + 1)
/-- Where so many bits are clear. -/
def run (l : List Bool) (f : Nat) (n : Int) : Int := if n < 1 then -1 else runGo l n.toNat (l.length + 1 - n.toNat - f) f
def IsRun (l : List Bool) (f n : Nat) (r : Int) : Prop :=
  (r = -1 ∧ ∀ i, f ≤ i → i + n ≤ l.length → ¬ ClearAt l i n) ∨ (∃ k : Nat, r = k ∧ f ≤ k ∧ k + n ≤ l.length ∧ ClearAt l k n ∧ ∀ i, f ≤ i → i < k → ¬ ClearAt l i n)
theorem runGo_is (l : List Bool) (n : Nat) : ∀ fu i, (i + fu + n = l.length + 1 ∨ (fu = 0 ∧ l.length + 1 ≤ i + n)) → IsRun l i n (runGo l n fu i)
  | 0, i, h => .inl ⟨rfl, fun j h1 h2 => by omega⟩
  | fu + 1, i, h => by
    unfold runGo
    by_cases hc : clearB l i n = true
    · rw [if_pos hc]
      exact .inr ⟨i, rfl, Nat.le_refl _, by omega, (clearB_iff l i n).1 hc, fun j h1 h2 => by omega⟩
    · rw [if_neg hc]
      have hnc : ¬ ClearAt l i n := fun h => hc ((clearB_iff l i n).2 h)
      rcases runGo_is l n fu (i + 1) (by omega) with ⟨h1, h2⟩ | ⟨k, h1, h2, h3, h4, h5⟩
      · refine .inl ⟨h1, fun j h3 h4 => ?_⟩
        by_cases hj : j = i
        · subst hj; exact hnc
        · exact h2 j (by omega) h4
      · refine .inr ⟨k, h1, by omega, h3, h4, fun j h6 h7 => ?_⟩
        by_cases hj : j = i
        · subst hj; exact hnc
        · exact h5 j (by omega) h7
theorem isRun_eq {l : List Bool} {i n : Nat} {r r' : Int} (h : IsRun l i n r) (h' : IsRun l i n r') : r = r' := by
  rcases h with ⟨h1, h2⟩ | ⟨k, h1, h2, h3, h4, h5⟩ <;> rcases h' with ⟨g1, g2⟩ | ⟨k', g1, g2, g3, g4, g5⟩
  · omega
  · exact absurd g4 (h2 k' g2 g3)
  · exact absurd h4 (g2 k h2 h3)
  · rcases Nat.lt_trichotomy k k' with h | h | h
    · exact absurd h4 (g5 k h2 h)
    · omega
    · exact absurd g4 (h5 k' g2 h)
theorem run_eq {l : List Bool} {f : Nat} {n : Int} {r : Int} (hn : 1 ≤ n) (h : IsRun l f n.toNat r) : r = run l f n := by
  unfold run
  rw [if_neg (by omega)]
  exact isRun_eq h (runGo_is l _ _ _ (by omega))
set_option maxHeartbeats 1000000 in
theorem run_calls (w : World) (p g c : Nat) (l : List Bool) (fr n : Int) (h : RowAt w p g c l) (hT : Tab w) (hf : fr ≤ 9223372036854775807) (hn2 : n ≤ 9223372036854775807) :
    Calls Tryd.prog 23 #[.pointer (some ⟨p, 0, none⟩), .int .i64 fr, .int .i64 n] w fun e w' => e = .returned (.int .i64 (run l fr.toNat n)) ∧ w = w' := by
  obtain ⟨c0, c1⟩ := h.facts
  have H := Lib.hid h
  have HT := Lib.hid hT
  have hs := h.small
  clear h hT
  by_cases hn : n < 1
  · have hr : run l fr.toNat n = -1 := by unfold run; rw [if_pos hn]
    rw [hr]
    clear hr
    go_enter Tryd.func23, Tryd.ntmps23
    go_wp2_with fail
    go_ret
    exact ⟨rfl, rfl⟩
  · have hn1 : 1 ≤ n := by omega
    obtain ⟨f, hfd⟩ : ∃ f, f = fr.toNat := ⟨_, rfl⟩
    rw [← hfd]
    have Hf := Lib.hid hfd
    clear hfd
    go_enter Tryd.func23, Tryd.ntmps23
    go_wp2_with fail
    go_loop [1] (fun s1 => ∃ q : Int, s1 = .int .i64 q ∧ q ≤ 9223372036854775807 ∧ f ≤ q.toNat ∧ ∀ i, f ≤ i → i < q.toNat → ¬ ClearAt l i n.toNat) (fun s1 => l.length + 1 - (intOf s1).toNat)
    case atStart => exact ⟨fr, rfl, hf, by rw [Hf.out]; exact Nat.le_refl _, fun i h1 h2 => by have := Hf.out; omega⟩
    case round =>
      obtain ⟨q, rfl, hq1, hq2, hall⟩ := hrel
      have HA := Lib.hid hall
      clear hall
      go_wp2_with fail
      refine (first_walk _ p g c l q false H.out HT.out hq1).mono ?_
      rintro e w' ⟨rfl, rfl⟩
      rcases first_is l q.toNat false with ⟨h1, h2⟩ | ⟨k, h1, h2, h3, h4, h5⟩
      · have H2 := Lib.hid h2
        rw [h1]
        clear h1 h2
        go_wp2_with fail
        go_ret
        refine ⟨ret_int (run_eq hn1 (.inl ⟨rfl, fun i hi1 hi2 hc => ?_⟩)), rfl⟩
        by_cases hiq : i < q.toNat
        · exact HA.out i hi1 hiq hc
        · exact H2.out i (by omega) (by omega) (hc i (Nat.le_refl _) (by omega))
      · have H4 := Lib.hid h4
        have H5 := Lib.hid h5
        rw [h1]
        clear h1 h4 h5
        by_cases hbig : (l.length : Int) - (k : Int) < n
        · go_wp2_with fail
          go_ret
          refine ⟨ret_int (run_eq hn1 (.inl ⟨rfl, fun i hi1 hi2 hc => ?_⟩)), rfl⟩
          by_cases hiq : i < q.toNat
          · exact HA.out i hi1 hiq hc
          · by_cases hik : i < k
            · exact H5.out i (by omega) hik (hc i (Nat.le_refl _) (by omega))
            · omega
        · have hbig' : n ≤ (l.length : Int) - (k : Int) := by omega
          have hmin : Hid (∀ i, f ≤ i → i < k → ¬ ClearAt l i n.toNat) := by
            intro i hi1 hi2 hc
            by_cases hiq : i < q.toNat
            · exact HA.out i hi1 hiq hc
            · exact H5.out i (by omega) hi2 (hc i (Nat.le_refl _) (by omega))
          have hk0 : (0 : Int) ≤ (k : Int) := by omega
          go_wp2_with fail
          refine (first_walk _ p g c l k true H.out HT.out (by omega)).mono ?_
          rintro e w' ⟨rfl, rfl⟩
          rw [Int.toNat_natCast]
          rcases first_is l k true with ⟨g1, g2⟩ | ⟨e, g1, g2, g3, g4, g5⟩
          · have G2 := Lib.hid g2
            rw [g1]
            clear g1 g2
            go_wp2_with fail
            go_ret
            refine ⟨ret_int (run_eq hn1 (.inr ⟨k, rfl, by omega, by omega, fun j hj1 hj2 => ?_, hmin.out⟩)), rfl⟩
            have := G2.out j hj1 (by omega)
            simpa using this
          · have G4 := Lib.hid g4
            have G5 := Lib.hid g5
            have hke : k < e := by
              rcases Nat.lt_or_ge k e with h | h
              · exact h
              · have : k = e := by omega
                subst this
                rw [H4.out] at g4; cases g4
            rw [g1]
            clear g1 g4 g5
            by_cases hge : n ≤ (e : Int) - (k : Int)
            · go_wp2_with fail
              go_ret
              refine ⟨ret_int (run_eq hn1 (.inr ⟨k, rfl, by omega, by omega, fun j hj1 hj2 => ?_, hmin.out⟩)), rfl⟩
              have := G5.out j hj1 (by omega)
              simpa using this
            · have hge' : (e : Int) - (k : Int) < n := by omega
              go_wp2_with fail
              go_round
              case rel =>
                refine ⟨(e : Int), rfl, by omega, by omega, fun i hi1 hi2 hc => ?_⟩
                by_cases hik : i < k
                · exact hmin.out i hi1 hik hc
                · have := hc e (by omega) (by omega)
                  rw [G4.out] at this; cases this
              case measure => simp [intOf]; omega
end Go.Proofs.YtknieebmcpgppaaDoor.Bit
