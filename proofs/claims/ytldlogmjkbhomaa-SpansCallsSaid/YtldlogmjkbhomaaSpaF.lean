/- The law's alive and great (layer 8). -/
import Derived.Test.YtldlogmjkbhomaaSpaW
import Derived.Laws.StructEq
set_option linter.unusedSimpArgs false
namespace Go.Proofs.Ytldlogmjkbhomaa.Spa
open Go.RowKit Go.Proofs.Ytldlogmjkbhomaa.Aid
/-- Runs of the call's own. -/
structure Hold (w0 w : World) (p : Nat) (F : List Nat) (P : Nat) (xs : List Rn) : Prop where
  sp : SpAt w p F P xs
  base : ∀ x ∈ F, w0.heap.size ≤ x
  below : Below w0.heap.size w0 w
theorem Hold.on {w0 w w' : World} {p P : Nat} {F : List Nat} {xs : List Rn} (h : Hold w0 w p F P xs) (k : Below w.heap.size w w') : Hold w0 w' p F P xs :=
  ⟨h.sp.below k, h.base, below_then h.below k⟩
theorem Hold.wrote {w0 w w' : World} {p P : Nat} {F : List Nat} {xs xs' : List Rn} (h : Hold w0 w p F P xs) (k : Spw w p F P xs' w') : ∃ F', Hold w0 w' p F' P xs' ∧ Kept F w w' ∧ ∀ x ∈ F', x ∈ F ∨ w.heap.size ≤ x := by
  have hz := h.below.size
  obtain ⟨F', h1, h2, h3⟩ := k
  refine ⟨F', ⟨h1, fun x hx => ?_, h.below.trans (h2.below hz h.base)⟩, h2, h3⟩
  rcases h3 x hx with e | e
  · exact h.base x e
  · omega
theorem great_calls (w : World) (P : Int) (A : Option Addr) (n c : Nat) : Calls Try.prog 45 #[.int .i64 P, .slice A n c] w fun e w' => e = .returned (.bool (decide (200 < P) || decide (100 < n))) ∧ w = w' := by
  by_cases h1 : (200 : Int) < P
  · go_enter Try.func45, Try.ntmps45
    go_wp2
    go_ret
    exact ⟨ret_bool (by simp [h1]), rfl⟩
  · have hd : (decide ((100 : Int) < (n : Int))) = decide (100 < n) := by
      by_cases h : 100 < n
      · simp [h]; omega
      · simp [h]; omega
    go_enter Try.func45, Try.ntmps45
    go_wp2
    go_ret
    exact ⟨ret_bool (by simp [h1]; omega), rfl⟩
def s1 : List Rn := [⟨0, 3, true⟩, ⟨3, 13, false⟩]
def s2 : List Rn := [⟨0, 3, true⟩, ⟨3, 5, true⟩, ⟨8, 8, false⟩]
def s3 : List Rn := [⟨0, 3, false⟩, ⟨3, 5, true⟩, ⟨8, 8, false⟩]
def s4 : List Rn := [⟨0, 2, true⟩, ⟨2, 1, false⟩, ⟨3, 5, true⟩, ⟨8, 8, false⟩]
def s5 : List Rn := [⟨0, 2, true⟩, ⟨2, 1, false⟩, ⟨3, 5, true⟩, ⟨8, 2, true⟩, ⟨10, 6, false⟩]
theorem st1 : takeAt 3 1 (xs0 16) = 0 ∧ takeE 3 1 (xs0 16) = 0 ∧ takeS 3 1 (xs0 16) = s1 := ⟨by kernel_rfl, by kernel_rfl, by kernel_rfl⟩
theorem st2 : takeAt 5 1 s1 = 3 ∧ takeE 5 1 s1 = 0 ∧ takeS 5 1 s1 = s2 := ⟨by kernel_rfl, by kernel_rfl, by kernel_rfl⟩
theorem st3 : giveN 0 s2 = 3 ∧ giveE 0 s2 = 0 ∧ giveS 0 s2 = s3 := ⟨by kernel_rfl, by kernel_rfl, by kernel_rfl⟩
theorem st4 : takeAt 2 1 s3 = 0 ∧ takeE 2 1 s3 = 0 ∧ takeS 2 1 s3 = s4 := ⟨by kernel_rfl, by kernel_rfl, by kernel_rfl⟩
theorem st5 : takeAt 2 4 s4 = 8 ∧ takeE 2 4 s4 = 0 ∧ takeS 2 4 s4 = s5 := ⟨by kernel_rfl, by kernel_rfl, by kernel_rfl⟩
theorem st6 : takeAt 7 1 s5 = -1 ∧ takeE 7 1 s5 = 13 ∧ takeS 7 1 s5 = s5 := ⟨by kernel_rfl, by kernel_rfl, by kernel_rfl⟩
theorem st7 : (bestA 6 2 s5).isSome = true ∧ (bestA 6 4 s5).isSome = false ∧ freeN s5 = 7 ∧ maxN s5 = 6 := ⟨by kernel_rfl, by kernel_rfl, by kernel_rfl, by kernel_rfl⟩
theorem read8 {w : World} {b : Nat} (h : Blk w b #[.int .i64 8, .int .i64 2, .bool true] RT) : w.cell? ⟨b, 0, none⟩ = some (.int .i64 8) ∧ w.cell? ⟨b, 1, none⟩ = some (.int .i64 2) ∧ w.cell? ⟨b, 2, none⟩ = some (.bool true) := ⟨h.cell (o := 0) rfl, h.cell (o := 1) rfl, h.cell (o := 2) rfl⟩
set_option maxRecDepth 100000 in
theorem alive_calls (w : World) : Calls Try.prog 44 #[] w fun e w' => e = .returned (.bool true) ∧ Below w.heap.size w w' := by
  go_enter Try.func44, Try.ntmps44
  go_wp2_with fail
  refine (new_yes w 16 (by decide)).mono ?_
  rintro e w1 ⟨p, F, rfl, hQ, hF, hb⟩
  have H1 := Lib.hid (show Hold w w1 p F 16 (xs0 16) from ⟨hQ, hF, hb⟩)
  clear hQ hF hb
  go_wp2_with fail
  refine (take1_calls w1 p F 16 (xs0 16) H1.out.sp 3).mono ?_
  rintro e w2 ⟨rfl, hS⟩
  rw [st1.1, st1.2.1]
  rw [st1.2.2] at hS
  obtain ⟨F2, h, _⟩ := H1.out.wrote hS
  have H2 := Lib.hid h
  clear hS h H1
  go_wp2_with fail
  refine (take1_calls w2 p F2 16 s1 H2.out.sp 5).mono ?_
  rintro e w3 ⟨rfl, hS⟩
  rw [st2.1, st2.2.1]
  rw [st2.2.2] at hS
  obtain ⟨F3, h, _⟩ := H2.out.wrote hS
  have H3 := Lib.hid h
  clear hS h H2
  go_wp2_with fail
  refine (give_calls w3 p F3 16 s2 H3.out.sp 0).mono ?_
  rintro e w4 ⟨rfl, hS⟩
  rw [st3.1, st3.2.1]
  rw [st3.2.2] at hS
  obtain ⟨F4, h, _⟩ := H3.out.wrote hS
  have H4 := Lib.hid h
  clear hS h H3
  go_wp2_with fail
  refine (take1_calls w4 p F4 16 s3 H4.out.sp 2).mono ?_
  rintro e w5 ⟨rfl, hS⟩
  rw [st4.1, st4.2.1]
  rw [st4.2.2] at hS
  obtain ⟨F5, h, _⟩ := H4.out.wrote hS
  have H5 := Lib.hid h
  clear hS h H4
  go_wp2_with fail
  refine (take_calls w5 p F5 16 s4 H5.out.sp 2 4).mono ?_
  rintro e w6 ⟨rfl, hS⟩
  rw [st5.1, st5.2.1]
  rw [st5.2.2] at hS
  obtain ⟨F6, h, _⟩ := H5.out.wrote hS
  have H6 := Lib.hid h
  clear hS h H5
  go_wp2_with fail
  refine (take1_calls w6 p F6 16 s5 H6.out.sp 7).mono ?_
  rintro e w7 ⟨rfl, hS⟩
  rw [st6.1, st6.2.1]
  rw [st6.2.2] at hS
  obtain ⟨F7, h, _⟩ := H6.out.wrote hS
  have H7 := Lib.hid h
  clear hS h H6
  go_wp2_with fail
  refine (find_yes w7 p F7 16 s5 H7.out.sp 3 9 (by decide) (by decide) (by decide)).mono ?_
  rintro e w8 ⟨rfl, hb⟩
  rw [show (s5.getD 3 r0) = ⟨8, 2, true⟩ from rfl]
  have H8 := Lib.hid (H7.out.on hb)
  clear hb H7
  have hb8 := (Below.refl w8.heap.size w8).alloc (Nat.le_refl _) (.cells #[.int .i64 8, .int .i64 2, .bool true] RT)
  have X8 := Lib.hid (Blk.new w8 #[.int .i64 8, .int .i64 2, .bool true] RT)
  have H9 := Lib.hid (H8.out.on hb8)
  clear hb8 H8
  go_upto_region 11 with fail
  generalize w8.alloc (.cells #[.int .i64 8, .int .i64 2, .bool true] RT) = w9 at H9 X8 ⊢
  generalize w8.heap.size = q8 at X8 ⊢
  obtain ⟨e0, e1, e2⟩ := read8 X8.out
  go_wp2_with fail
  refine (free_calls w9 p F7 16 s5 H9.out.sp).mono ?_
  rintro e w10 ⟨rfl, hb⟩
  rw [st7.2.2.1]
  have H10 := Lib.hid (H9.out.on hb)
  clear hb H9
  go_wp2_with fail
  refine (largest_calls w10 p F7 16 s5 H10.out.sp).mono ?_
  rintro e w11 ⟨rfl, hb⟩
  rw [st7.2.2.2]
  have H11 := Lib.hid (H10.out.on hb)
  clear hb H10
  go_wp2_with fail
  refine (runs_calls w11 p F7 16 s5 H11.out.sp).mono ?_
  rintro e w12 ⟨hd, rfl, hR, _, hb⟩
  obtain ⟨A, c, rfl, _⟩ := Hdr.open3 hR
  have H12 := Lib.hid (H11.out.on hb)
  rw [show s5.length = 5 from rfl]
  clear hb H11 hR
  go_wp2_with fail
  refine (can_calls w12 p F7 16 s5 H12.out.sp 6 2).mono ?_
  rintro e w13 ⟨rfl, hb⟩
  rw [st7.1]
  have H13 := Lib.hid (H12.out.on hb)
  clear hb H12
  go_wp2_with fail
  refine (can_calls w13 p F7 16 s5 H13.out.sp 6 4).mono ?_
  rintro e w14 ⟨rfl, hb⟩
  rw [st7.2.1]
  have H14 := Lib.hid (H13.out.on hb)
  clear hb H13
  go_wp2_with fail
  go_ret
  exact ⟨rfl, H14.out.below⟩
end Go.Proofs.Ytldlogmjkbhomaa.Spa
