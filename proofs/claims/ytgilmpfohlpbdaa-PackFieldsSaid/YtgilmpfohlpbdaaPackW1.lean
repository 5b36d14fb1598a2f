/- Layer 1: the law PackFields, walked: it returns true and leaves old memory alone. -/
import Derived.Test.YtgilmpfohlpbdaaPackV
import Derived.Outline
import Derived.Deep.RegionHeld3
namespace Go.Proofs.Ytgilmpfohlpbdaa.Pack
open Go.RowKit Go.Proofs.Ytgilmpfohlpbdaa.Aid
theorem rright_any (s n : Int) (w : World) : Calls Try.prog 58 #[.agg #[.int .i64 s, .int .i64 n]] w fun e w' => e = .returned (.bool (rightB s n)) ∧ Below w.heap.size w w' := by
  rw [rights]; exact rright_calls s n w
/-- Both boxes, and old memory, between the two calls of the last test. -/
def FS (W : World) (a b : Nat) (s n : Int) (w' : World) : Prop :=
  w'.cell? ⟨a, 0, none⟩ = some (.int .i64 s) ∧ w'.cell? ⟨a, 1, none⟩ = some (.int .i64 n) ∧ w'.cell? ⟨b, 0, none⟩ = some (.int .i64 s) ∧ w'.cell? ⟨b, 1, none⟩ = some (.int .i64 n) ∧ Below W.heap.size W w'
theorem FS.drew {W : World} {a b : Nat} {s n : Int} {w1 : World} (h : FS W a b s n w1) : FS W a b s n w1.drew := by
  obtain ⟨h1, h2, h3, h4, h5⟩ := h
  exact ⟨h1, h2, h3, h4, h5.drew⟩
theorem FS.keep {W : World} {a b : Nat} {s n : Int} {w1 w2 : World} (h : FS W a b s n w1) (ha : a < W.heap.size) (hb : b < W.heap.size) (k : Below w1.heap.size w1 w2) : FS W a b s n w2 := by
  obtain ⟨h1, h2, h3, h4, h5⟩ := h
  have hs := h5.size
  exact ⟨(k.cell (p := ⟨a, 0, none⟩) (by show a < _; omega)).trans h1, (k.cell (p := ⟨a, 1, none⟩) (by show a < _; omega)).trans h2, (k.cell (p := ⟨b, 0, none⟩) (by show b < _; omega)).trans h3, (k.cell (p := ⟨b, 1, none⟩) (by show b < _; omega)).trans h4, below_then h5 k⟩
set_option maxRecDepth 100000 in
set_option maxHeartbeats 2000000 in
theorem fields_walk (x v s n : Int) (hx : R x) (hv : R v) (w : World) :
    Calls Try.prog 9 #[.int .u64 x, .int .u64 v, .agg #[.int .i64 s, .int .i64 n]] w fun e w' => e = .returned (.bool true) ∧ Below w.heap.size w w' := by
  have Hx := Lib.hid hx
  have Hv := Lib.hid hv
  clear hx hv
  go_enter Try.func9, Try.ntmps9
  go_wp2_with fail
  refine (alive_calls _).mono ?_
  rintro e w1 ⟨rfl, hb1⟩
  have B1 := (Bx.new w s n _).below hb1
  have hw1 := below_box hb1
  clear hb1
  obtain ⟨c1, c2, c3⟩ := id B1
  go_wp2_with fail
  have B2 := B1.alloc (.cells #[.int .i64 s, .int .i64 n] 82)
  have D2 := Bx.new w1 s n 82
  refine (get_any _ _ _ _).mono ?_
  rintro e w2 ⟨rfl, hb2⟩
  have B3 := B2.below hb2
  have D3 := D2.below hb2
  have hw2 := below_box_then hw1 hb2
  clear c1 c2 c3 B1 B2 D2 hb2
  obtain ⟨c1, c2, c3⟩ := id B3
  obtain ⟨d1, d2, d3⟩ := id D3
  go_wp2_with fail
  refine (rget_any _ _ _ Hx.out _).mono ?_
  rintro e w3 ⟨rfl, hb3⟩
  have B4 := B3.below hb3
  have D4 := D3.below hb3
  have hw3 := below_then hw2 hb3
  clear c1 c2 c3 d1 d2 d3 B3 D3 hb3
  obtain ⟨c1, c2, c3⟩ := id B4
  obtain ⟨d1, d2, d3⟩ := id D4
  go_wp2_with fail
  refine (put_any _ _ _ _ _).mono ?_
  rintro e w4 ⟨rfl, hb4⟩
  have B5 := B4.below hb4
  have D5 := D4.below hb4
  have hw4 := below_then hw3 hb4
  clear c1 c2 c3 d1 d2 d3 B4 D4 hb4
  obtain ⟨c1, c2, c3⟩ := id B5
  obtain ⟨d1, d2, d3⟩ := id D5
  go_wp2_with fail
  refine (rput_any _ _ _ _ Hx.out Hv.out _).mono ?_
  rintro e w5 ⟨rfl, hb5⟩
  have B6 := B5.below hb5
  have D6 := D5.below hb5
  have hw5 := below_then hw4 hb5
  clear c1 c2 c3 d1 d2 d3 B5 D5 hb5
  obtain ⟨c1, c2, c3⟩ := id B6
  obtain ⟨d1, d2, d3⟩ := id D6
  go_wp2_with fail
  have ha := c3
  have hb := d3
  have hs0 : FS w5 w.heap.size w1.heap.size s n w5 := ⟨c1, c2, d1, d2, Below.refl _ _⟩
  go_region_held3 (fun w' => w'.cell? ⟨w.heap.size, 0, none⟩ = some (.int .i64 s) ∧ w'.cell? ⟨w.heap.size, 1, none⟩ = some (.int .i64 n) ∧ w'.cell? ⟨w1.heap.size, 0, none⟩ = some (.int .i64 s) ∧ w'.cell? ⟨w1.heap.size, 1, none⟩ = some (.int .i64 n) ∧ Below w5.heap.size w5 w')
    (first | exact FS.drew hs0 | exact FS.keep (by assumption) ha hb (by assumption))
    (first | (go_at_call 57; refine (right_calls _ _ _).mono ?_; rintro e w6 ⟨rfl, hb6⟩) | (go_at_call 58; refine (rright_any _ _ _).mono ?_; rintro e w7 ⟨rfl, hb7⟩))
  go_wp2
  go_ret
  exact ⟨rfl, below_then hw5 (show FS w5 w.heap.size w1.heap.size s n _ by assumption).2.2.2.2⟩
end Go.Proofs.Ytgilmpfohlpbdaa.Pack
