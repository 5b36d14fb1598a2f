/- The law's alive (layer 13). -/
import Derived.Test.YtknieebmcpgppaaDoorOldV
import Derived.Test.YtknieebmcpgppaaDoorBitW
import Derived.Test.YtknieebmcpgppaaDoorSame
set_option linter.unusedSimpArgs false
namespace Go.Proofs.YtknieebmcpgppaaDoor.Old
open Go.RowKit Go.Proofs.YtknieebmcpgppaaDoor.Aid Go.Proofs.YtknieebmcpgppaaDoor.Bit
/-- A slab of the call's own. -/
structure Hd (w0 w : World) (p : Nat) (F : List Nat) (x : Sb) : Prop where
  sl : SlAt w p F x
  base : ∀ y ∈ F, w0.heap.size ≤ y
  below : Below w0.heap.size w0 w
  pos : 0 < w0.heap.size
  tab : Tab w
theorem Hd.on {w0 w w' : World} {p : Nat} {F : List Nat} {x : Sb} (h : Hd w0 w p F x) (k : Below w.heap.size w w') : Hd w0 w' p F x :=
  ⟨h.sl.below k, h.base, below_then h.below k, h.pos, h.tab.below k⟩
theorem Hd.zero {w0 w : World} {p : Nat} {F : List Nat} {x : Sb} (h : Hd w0 w p F x) : 0 ∉ F := fun hx => by
  have := h.base 0 hx
  have := h.pos
  omega
theorem Hd.pos0 {w0 w : World} {p : Nat} {F : List Nat} {x : Sb} (h : Hd w0 w p F x) : ∀ y ∈ F, 0 < y := fun y hy => by
  have := h.base y hy
  have := h.pos
  omega
theorem Hd.wrote {w0 w w' : World} {p : Nat} {F : List Nat} {x x' : Sb} (h : Hd w0 w p F x) (k : SlAt w' p F x' ∧ Kept F w w') : Hd w0 w' p F x' :=
  ⟨k.1, h.base, h.below.trans (k.2.below h.below.size h.base), h.pos, h.tab.kept k.2 h.zero⟩
theorem Hd.slw {w0 w w' : World} {p : Nat} {F : List Nat} {x x' : Sb} (h : Hd w0 w p F x) (k : Slw w p F x' w') : ∃ F', Hd w0 w' p F' x' ∧ Kept F w w' ∧ ∀ y ∈ F', y ∈ F ∨ w.heap.size ≤ y := by
  obtain ⟨F', h1, h2, h3⟩ := k
  have hz := h.below.size
  refine ⟨F', ⟨h1, fun y hy => ?_, h.below.trans (h2.below hz h.base), h.pos, h.tab.kept h2 h.zero⟩, h2, h3⟩
  rcases h3 y hy with e | e
  · exact h.base y e
  · omega
def y0 : Sb := ⟨1024, 8, 160, [false, false, false, false, false, false]⟩
def y1 : Sb := ⟨1024, 8, 160, [true, false, false, false, false, false]⟩
def y2 : Sb := ⟨1024, 8, 160, [true, true, false, false, false, false]⟩
def y3 : Sb := ⟨1024, 8, 160, [false, true, false, false, false, false]⟩
def y5 : Sb := ⟨1024, 8, 160, [true, true, true, true, true, true]⟩
def y6 : Sb := ⟨1024, 8, 160, [false, true, false, true, true, true]⟩
theorem new8 : newOk 1024 8 := ⟨by decide, by decide, by decide, by decide⟩
theorem z0 : newX 1024 8 = y0 := by kernel_rfl
theorem z1 : takeX y0 = y1 ∧ takeA y0 = 1024 ∧ takeE y0 = 0 := ⟨by kernel_rfl, by kernel_rfl, by kernel_rfl⟩
theorem z2 : takeX y1 = y2 ∧ takeA y1 = 1184 ∧ takeE y1 = 0 := ⟨by kernel_rfl, by kernel_rfl, by kernel_rfl⟩
theorem z3 : giveE y2 y2.l 1024 = 0 ∧ ({ y2 with l := giveL y2 y2.l 1024 } : Sb) = y3 := ⟨by kernel_rfl, by kernel_rfl⟩
theorem z4 : giveE y3 y3.l 1024 = 19 ∧ ({ y3 with l := giveL y3 y3.l 1024 } : Sb) = y3 := ⟨by kernel_rfl, by kernel_rfl⟩
theorem z5 : takeX y3 = y2 ∧ takeA y3 = 1024 ∧ takeE y3 = 0 := ⟨by kernel_rfl, by kernel_rfl, by kernel_rfl⟩
theorem z6 : giveE y2 y2.l 1100 = 12 ∧ ({ y2 with l := giveL y2 y2.l 1100 } : Sb) = y2 := ⟨by kernel_rfl, by kernel_rfl⟩
theorem z7 : slotO y2 1984 = none := by kernel_rfl
theorem z8 : stops y2 9 4 ∧ st y2 4 = y5 := by
  refine ⟨⟨.inr (by decide +kernel), fun j hj => ⟨by omega, ?_⟩⟩, by kernel_rfl⟩
  rcases (by omega : j = 0 ∨ j = 1 ∨ j = 2 ∨ j = 3) with rfl | rfl | rfl | rfl <;> kernel_rfl
theorem z9 : takeX y5 = y5 ∧ takeA y5 = -1 ∧ takeE y5 = 18 := ⟨by kernel_rfl, by kernel_rfl, by kernel_rfl⟩
theorem z10 : (giveAll y5 y5.l [1024, 1344, 1024]).1 = 19 ∧ allX y5 [1024, 1344, 1024] = y5 := ⟨by kernel_rfl, by kernel_rfl⟩
theorem z11 : (giveAll y5 y5.l [1024, 1344]).1 = 0 ∧ allX y5 [1024, 1344] = y6 := ⟨by kernel_rfl, by kernel_rfl⟩
theorem z12 : cntL y6.l = 4 ∧ y6.l.length = 6 ∧ listL y6.l = [1, 3, 4, 5] ∧ y6.z = 160 := ⟨by kernel_rfl, by kernel_rfl, by kernel_rfl, rfl⟩
theorem z13 : keyV y6.l = #[.int .u64 58, .int .u64 0, .int .u64 0, .int .u64 0] := by
  unfold keyV
  rw [show Bit.word y6.l 0 = 58 by decide +kernel, show Bit.word y6.l 1 = 0 by decide +kernel, show Bit.word y6.l 2 = 0 by decide +kernel, show Bit.word y6.l 3 = 0 by decide +kernel]
theorem ints3 (w : World) (a b c : Int) : Ints (w.alloc (.cells #[.int .i64 a, .int .i64 b, .int .i64 c] 3)) .i64 (some ⟨w.heap.size, 0, none⟩) [a, b, c] := by
  intro k hk
  refine ⟨_, _, rfl, by simp, ?_⟩
  have : k = 0 ∨ k = 1 ∨ k = 2 := by simp at hk; omega
  rcases this with rfl | rfl | rfl <;> go_simp
theorem ints2 (w : World) (a b : Int) : Ints (w.alloc (.cells #[.int .i64 a, .int .i64 b] 3)) .i64 (some ⟨w.heap.size, 0, none⟩) [a, b] := by
  intro k hk
  refine ⟨_, _, rfl, by simp, ?_⟩
  have : k = 0 ∨ k = 1 := by simp at hk; omega
  rcases this with rfl | rfl <;> go_simp
theorem ints4 (w : World) (a b c d : Int) : Ints (w.alloc (.cells #[.int .i64 a, .int .i64 b, .int .i64 c, .int .i64 d] 3)) .i64 (some ⟨w.heap.size, 0, none⟩) [a, b, c, d] := by
  intro k hk
  refine ⟨_, _, rfl, by simp, ?_⟩
  have : k = 0 ∨ k = 1 ∨ k = 2 ∨ k = 3 := by simp at hk; omega
  rcases this with rfl | rfl | rfl | rfl <;> go_simp
set_option maxHeartbeats 8000000 in
set_option maxRecDepth 100000 in
theorem alive_calls (w : World) (hT : Tab w) : Calls Tryd.prog 29 #[] w fun e w' => e = .returned (.bool true) ∧ Below w.heap.size w w' := by
  have HT := Lib.hid hT
  clear hT
  go_enter Tryd.func29, Tryd.ntmps29
  go_wp2_with fail
  refine (new_yes w 1024 8 new8 HT.out).mono ?_
  rw [z0]
  rintro e w1 ⟨p, F, rfl, hS, hF, hb⟩
  have H := Lib.hid (show Hd w w1 p F y0 from ⟨hS, hF, hb, HT.out.1, HT.out.below hb⟩)
  clear hS hF hb HT
  go_wp2_with fail
  refine (take_calls w1 p F y0 H.out.sl H.out.tab).mono ?_
  rw [z1.1, z1.2.1, z1.2.2]
  rintro e w2 ⟨rfl, hk⟩
  have H2 := Lib.hid (H.out.wrote hk)
  clear hk H
  go_wp2_with fail
  refine (take_calls w2 p F y1 H2.out.sl H2.out.tab).mono ?_
  rw [z2.1, z2.2.1, z2.2.2]
  rintro e w3 ⟨rfl, hk⟩
  have H3 := Lib.hid (H2.out.wrote hk)
  clear hk H2
  go_wp2_with fail
  refine (give_calls w3 p F y2 H3.out.sl 1024).mono ?_
  rw [z3.1, z3.2]
  rintro e w4 ⟨rfl, hk⟩
  have H4 := Lib.hid (H3.out.wrote hk)
  clear hk H3
  go_wp2_with fail
  refine (give_calls w4 p F y3 H4.out.sl 1024).mono ?_
  rw [z4.1, z4.2]
  rintro e w5 ⟨rfl, hk⟩
  have H5 := Lib.hid (H4.out.wrote hk)
  clear hk H4
  go_wp2_with fail
  refine (take_calls w5 p F y3 H5.out.sl H5.out.tab).mono ?_
  rw [z5.1, z5.2.1, z5.2.2]
  rintro e w6 ⟨rfl, hk⟩
  have H6 := Lib.hid (H5.out.wrote hk)
  clear hk H5
  go_wp2_with fail
  refine (give_calls w6 p F y2 H6.out.sl 1100).mono ?_
  rw [z6.1, z6.2]
  rintro e w7 ⟨rfl, hk⟩
  have H7 := Lib.hid (H6.out.wrote hk)
  clear hk H6
  go_wp2_with fail
  refine (slot_calls w7 p F y2 H7.out.sl 1984).mono ?_
  rw [z7, show slotV none = -1 from rfl, show slotE none = 12 from rfl]
  rintro e w8 ⟨rfl, hb⟩
  have H8 := Lib.hid (H7.out.on hb)
  clear hb H7
  go_wp2_with fail
  refine (some_calls w8 p F y2 H8.out.sl H8.out.tab 9 H8.out.pos0).mono ?_
  rintro e w9 ⟨i, v, rfl, hst, hown, hk⟩
  obtain rfl := stops_one hst z8.1
  rw [z8.2] at hk
  obtain ⟨A9, c9, rfl, _⟩ := hown.shape
  have H9 := Lib.hid (H8.out.wrote hk)
  rw [show (sm y2 4).length = 4 from rfl]
  clear hk hst hown H8
  go_wp2_with fail
  refine (take_calls w9 p F y5 H9.out.sl H9.out.tab).mono ?_
  rw [z9.1, z9.2.1, z9.2.2]
  rintro e w10 ⟨rfl, hk⟩
  have H10 := Lib.hid (H9.out.wrote hk)
  clear hk H9
  go_wp2_with fail
  have hba := (Below.refl w10.heap.size w10).alloc (Nat.le_refl _) (.cells #[.int .i64 1024, .int .i64 1344, .int .i64 1024] 3)
  have H10a := Lib.hid (H10.out.on hba)
  refine (all_calls _ p F y5 H10a.out.sl (some ⟨w10.heap.size, 0, none⟩) 3 [1024, 1344, 1024] (ints3 w10 1024 1344 1024) (by decide)).mono ?_
  rw [z10.1, z10.2]
  rintro e w11 ⟨rfl, hk⟩
  obtain ⟨F11, h, _⟩ := H10a.out.slw hk
  have H11 := Lib.hid h
  clear hk h hba H10 H10a
  go_wp2_with fail
  have hba := (Below.refl w11.heap.size w11).alloc (Nat.le_refl _) (.cells #[.int .i64 1024, .int .i64 1344] 3)
  have H11a := Lib.hid (H11.out.on hba)
  refine (all_calls _ p F11 y5 H11a.out.sl (some ⟨w11.heap.size, 0, none⟩) 2 [1024, 1344] (ints2 w11 1024 1344) (by decide)).mono ?_
  rw [z11.1, z11.2]
  rintro e w12 ⟨rfl, hk⟩
  obtain ⟨F12, h, _⟩ := H11a.out.slw hk
  have H12 := Lib.hid h
  clear hk h hba H11 H11a
  go_wp2_with fail
  refine (free_calls w12 p F12 y6 H12.out.sl).mono ?_
  rw [z12.1, z12.2.1]
  rintro e w13 ⟨rfl, hb⟩
  have H13 := Lib.hid (H12.out.on hb)
  clear hb H12
  go_wp2_with fail
  refine (state_calls w13 p F12 y6 H13.out.sl).mono ?_
  rw [z12.1, z12.2.1]
  rintro e w14 ⟨rfl, rfl⟩
  go_wp2_with fail
  refine (taken_calls w13 p F12 y6 H13.out.sl H13.out.tab).mono ?_
  rw [z12.2.2.1]
  rintro e w14 ⟨v, rfl, hown, hb⟩
  obtain ⟨A14, c14, rfl, hI⟩ := hown.shape
  have H14 := Lib.hid (And.intro (H13.out.on hb) hI)
  clear hb hI hown H13
  go_wp2_with fail
  have hba := (Below.refl w14.heap.size w14).alloc (Nat.le_refl _) (.cells #[.int .i64 1, .int .i64 3, .int .i64 4, .int .i64 5] 3)
  have H15 := Lib.hid (H14.out.1.on hba)
  refine (same_ints [1, 3, 4, 5] [1, 3, 4, 5] A14 _ c14 4 _ (H14.out.2.below hba) (ints4 w14 1 3 4 5) (by decide)).mono ?_
  rintro e w15 ⟨rfl, nr, rfl⟩
  have H16 := Lib.hid (H15.out.on (below_drewN (Below.refl _ _) nr))
  generalize (w14.alloc (.cells #[.int .i64 1, .int .i64 3, .int .i64 4, .int .i64 5] 3)).drewN nr = w15 at H16 ⊢
  clear H14 H15 hba
  go_wp2_with fail
  refine (key_calls w15 p F12 y6 H16.out.sl).mono ?_
  rw [z13]
  rintro e w16 ⟨rfl, hb⟩
  have H17 := Lib.hid (H16.out.on hb)
  have ek := eq_key w16 58 0 0 0 58 0 0 0
  clear hb H16
  go_wp2_with fail
  refine (size_calls w16 p F12 y6 H17.out.sl).mono ?_
  rw [z12.2.2.2]
  rintro e w17 ⟨rfl, rfl⟩
  go_wp2_with fail
  refine (slots_calls w16 p F12 y6 H17.out.sl).mono ?_
  rw [z12.2.1]
  rintro e w17 ⟨rfl, rfl⟩
  go_wp2_with fail
  go_ret
  exact ⟨rfl, H17.out.below⟩
end Go.Proofs.YtknieebmcpgppaaDoor.Old
