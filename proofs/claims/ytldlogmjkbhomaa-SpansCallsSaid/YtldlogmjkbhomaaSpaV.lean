/- The contracts of package spans' New, Take and Give. -/
import Derived.Test.YtldlogmjkbhomaaSpaU
set_option linter.unusedSimpArgs false
namespace Go.Proofs.Ytldlogmjkbhomaa.Spa
open Go.RowKit Go.Proofs.Ytldlogmjkbhomaa.Aid
def xs0 (P : Nat) : List Rn := if P = 0 then [] else [⟨0, P, false⟩]
theorem ok0 {P : Nat} (h : P ≤ 4096) : OkS P (xs0 P) := by
  unfold xs0
  by_cases e : P = 0
  · rw [if_pos e]; exact ⟨h, e.symm, trivial⟩
  · rw [if_neg e]; exact ⟨h, ⟨rfl, by show 1 ≤ P; omega, by show 0 + P = P; omega⟩, trivial⟩
theorem take1_calls (w : World) (p : Nat) (F : List Nat) (P : Nat) (xs : List Rn) (h : SpAt w p F P xs) (n : Int) : Calls Try.prog 79 #[.pointer (some ⟨p, 0, none⟩), .int .i64 n] w fun e w' => e = .returned (.tuple #[.int .i64 (takeAt n 1 xs), .int .i64 (takeE n 1 xs)]) ∧ Spw w p F P (takeS n 1 xs) w' := by
  have HT := Lib.hid (take_calls w p F P xs h n 1)
  clear h
  go_enter Try.func79, Try.ntmps79
  go_wp2_with fail
  refine HT.out.mono ?_
  rintro e w1 ⟨rfl, hS⟩
  have HS := Lib.hid hS
  clear hS
  go_wp2_with fail
  go_ret2
  exact ⟨rfl, HS.out⟩
theorem new_no (w : World) (n : Int) (h : n < 0 ∨ 4096 < n) : Calls Try.prog 46 #[.int .i64 n] w fun e w' => e = .returned (.tuple #[.pointer none, .int .i64 11]) ∧ w = w' := by
  by_cases h0 : n < 0
  · clear h
    go_enter Try.func46, Try.ntmps46
    go_wp2
    go_ret2
    exact ⟨rfl, rfl⟩
  · have h1 : 4096 < n := by omega
    clear h
    go_enter Try.func46, Try.ntmps46
    go_wp2
    go_ret2
    exact ⟨rfl, rfl⟩
theorem new_yes (w : World) (P : Nat) (h : P ≤ 4096) : Calls Try.prog 46 #[.int .i64 P] w fun e w' => ∃ p F, e = .returned (.tuple #[.pointer (some ⟨p, 0, none⟩), .int .i64 0]) ∧ SpAt w' p F P (xs0 P) ∧ (∀ x ∈ F, w.heap.size ≤ x) ∧ Below w.heap.size w w' := by
  have hok := Lib.hid (ok0 h)
  have g1 : ¬ (P : Int) < 0 := by omega
  have g2 : ¬ (4096 : Int) < P := by omega
  have hb1 := (Below.refl w.heap.size w).alloc (Nat.le_refl _) (.cells #[.int .i64 P, .slice none 0 0] ST)
  have hk1 := Blk.new w #[.int .i64 P, .slice none 0 0] ST
  have H1 := Lib.hid (And.intro hb1 hk1)
  by_cases h0 : P = 0
  · have h0' : ((P : Nat) : Int) = 0 := by omega
    have HX := Lib.hid (show xs0 P = [] by unfold xs0; rw [if_pos h0])
    clear h hb1 hk1
    subst h0
    go_enter Try.func46, Try.ntmps46
    go_wp2
    go_ret2
    refine ⟨w.heap.size, rfl, [w.heap.size], ⟨hok.out, _, ⟨H1.out.2, .inl ⟨rfl, HX.out⟩, fun g hg => (by cases hg), by simp, fun x hx => ?_⟩⟩, fun x hx => ?_, H1.out.1⟩
    · simp at hx; subst hx; exact H1.out.2.lt
    · simp at hx; omega
  · have h0' : (0 : Int) < (P : Nat) := by omega
    have HX := Lib.hid (show xs0 P = [⟨0, P, false⟩] by unfold xs0; rw [if_neg h0])
    have hc1 := hk1.cell (o := 1) rfl
    have hf1 := hk1.free 1
    clear h h0 hb1 hk1
    go_enter Try.func46, Try.ntmps46
    go_upto_region 5 with fail
    generalize w.alloc (.cells #[.int .i64 P, .slice none 0 0] ST) = w1 at H1 hc1 hf1 ⊢
    generalize hpE : w.heap.size = p at H1 hc1 hf1 ⊢
    have hk2 := H1.out.2.alloc (.cells #[.int .i64 0, .int .i64 (P : Nat), .bool false] RT)
    have c1' := hk2.cell (o := 1) rfl
    have f1' := hk2.free 1
    clear hk2 hc1 hf1
    go_wp2_with fail
    go_ret2
    have hz := H1.out.1.size
    have hp1 := H1.out.2.lt
    have hk3 := H1.out.2.alloc (.cells #[.int .i64 0, .int .i64 (P : Nat), .bool false] RT)
    have hR3 := Recs.lit w1 (⟨0, P, false⟩ : Rn) RT encR_len
    refine ⟨p, rfl, [p, w1.heap.size], ⟨hok.out, _, ⟨hk3.set 1 _, ?_, fun g hg => ?_, by simp, fun x hx => ?_⟩⟩, fun x hx => ?_, (H1.out.1.alloc (Nat.le_of_lt hp1) _).setCell (p := ⟨p, 1, none⟩) (Nat.le_refl _) _⟩
    · rw [HX.out]
      exact .inr ⟨w1.heap.size, 1, rfl, hR3.other (a := ⟨p, 1, none⟩) (by show w1.heap.size ≠ p; omega) _⟩
    · have : w1.heap.size = g := Option.some.inj (show some w1.heap.size = some g from hg)
      subst this
      exact ⟨by simp, by omega⟩
    · simp only [World.size_setCell, World.size_alloc]
      simp at hx
      omega
    · simp at hx
      omega
end Go.Proofs.Ytldlogmjkbhomaa.Spa
