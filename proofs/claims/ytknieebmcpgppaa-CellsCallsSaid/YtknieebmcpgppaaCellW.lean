/- The law's own small function alive of layer 2: it returns true. -/
import Derived.Test.YtknieebmcpgppaaCellR
import Derived.Test.YtknieebmcpgppaaCellD
namespace Go.Proofs.Ytknieebmcpgppaa.Cell
open Go.RowKit Go.Proofs.Ytknieebmcpgppaa.Aid
def a0 : List Int := List.replicate 16 0
def a1 : List Int := lay a0 2 (bytesTo 258 4)
def a2 : List Int := lay a1 3 (sub a1 2 4)
theorem a0_len : a0.length = 16 := by decide +kernel
theorem a1_len : a1.length = 16 := by decide +kernel
theorem a2_len : a2.length = 16 := by decide +kernel
theorem a1_num : orTo a1 3 2 = 1 := by decide +kernel
theorem a2_sub : sub a2 2 5 = [2, 2, 1, 0, 0] := by decide +kernel
theorem a2_dif : (difTo a2 a1 16).1 = [(3, 2)] := by decide +kernel
set_option maxHeartbeats 4000000 in
theorem alive_calls (w : World) : Calls Try.prog 6 #[] w fun e w' => e = .returned (.bool true) ∧ Below w.heap.size w w' := by
  go_enter Try.func6, Try.ntmps6
  go_wp2_with fail
  refine (new_yes w 16 (by decide)).mono ?_
  rintro e w1 ⟨p, g, rfl, hC, hp, hg, hb1⟩
  have HC := Lib.hid (show CellAt w1 p g 16 a0 from hC)
  have hs1 := hb1.size
  clear hC
  go_wp2_with fail
  refine (store_yes w1 p g 16 a0 2 4 258 HC.out (by decide) (by decide)).mono ?_
  rintro e w2 ⟨rfl, hC2, hk2⟩
  have HC2 := Lib.hid (show CellAt w2 p g 16 a1 from hC2)
  have hb2 := below_kept hb1 hk2 hs1 (by simpa using hg)
  have hs2 := hb2.size
  clear hC2 hk2 HC hb1 hs1
  go_wp2_with fail
  refine (load_yes w2 p g 16 a1 3 2 HC2.out (by decide) (by rw [a1_len]; decide)).mono ?_
  rw [a1_num]
  rintro e w' ⟨rfl, rfl⟩
  go_wp2_with fail
  refine (clone_calls w2 p g 16 a1 HC2.out).mono ?_
  rintro e w3 ⟨p3, g3, c3, rfl, hD, hp3, hg3, hb3⟩
  have HD := Lib.hid hD
  have hne : p3 ≠ g := by have := HC2.out.row.lt; omega
  have hne' : g3 ≠ g := by have := HC2.out.row.lt; omega
  have HC3 := Lib.hid (HC2.out.below hb3)
  have hb3' := below_then hb2 hb3
  have hs3 := hb3'.size
  clear hD hb3 hb2 HC2
  go_wp2_with fail
  refine (move_yes w3 p g 16 a1 3 2 4 HC3.out (by rw [a1_len]; decide) (by rw [a1_len]; decide)).mono ?_
  rintro e w4 ⟨rfl, hC4, hk4⟩
  have HC4 := Lib.hid (show CellAt w4 p g 16 a2 from hC4)
  have HD4 := Lib.hid (HD.out.kept hk4 (by simpa using hne) (by simpa using hne'))
  have hb4 := below_kept hb3' hk4 hs3 (by simpa using hg)
  have hs4 := hb4.size
  clear hC4 hk4 HC3 HD hb3' 
  go_wp2_with fail
  refine (read_yes w4 p g 16 a2 2 5 HC4.out (by rw [a2_len]; decide)).mono ?_
  rw [a2_sub]
  rintro e w5 ⟨g5, c5, rfl, hr5, hg5, hb5⟩
  have HR5 := Lib.hid hr5
  have HC5 := Lib.hid (HC4.out.below hb5)
  have HD5 := Lib.hid (HD4.out.below hb5)
  have hb5' := below_then hb4 hb5
  have hs5 := hb5'.size
  clear hr5 hb5 HC4 HD4 hb4
  go_wp2_with fail
  refine (differ_calls w5 a2 a1 p g 16 p3 g3 c3 16 HC5.out HD5.out (by rw [a1_len, a2_len]; decide)).mono ?_
  rw [a2_dif]
  rintro e w6 ⟨v6, rfl, ho6, hb6⟩
  have HR6 := Lib.hid (HR5.out.below hb6)
  have HC6 := Lib.hid (HC5.out.below hb6)
  have hb6' := below_then hb5' hb6
  have hs6 := hb6'.size
  obtain ⟨A6, c6, rfl, hp6⟩ := OwnR.pairs ho6
  have HP6 := Lib.hid hp6
  clear ho6 hb6 HC5 HD5 hb5' HR5 hp6
  go_wp2_with fail
  refine (load_no w6 p g 16 a2 13 4 HC6.out (by rw [a2_len]; decide)).mono ?_
  rintro e w' ⟨rfl, rfl⟩
  go_wp2_with fail
  refine (new_no w6 (-1) (by decide)).mono ?_
  rintro e w' ⟨rfl, rfl⟩
  go_wp2_with fail
  refine (same_bytes [2, 2, 1, 0, 0] [2, 2, 1, 0, 0] _ _ _ _ _ (HR6.out.alloc _).ints (Row.ints (xs := [2, 2, 1, 0, 0]) (Row.lit w6 ([2, 2, 1, 0, 0].map (Value.int .u8)) _ (by decide))) (by decide)).mono ?_
  rintro e w' ⟨rfl, nq, rfl⟩
  obtain ⟨b6, o6, rfl, hlt6, hc0, hc1⟩ := HP6.out 0 (by decide)
  have hc0' : (w6.alloc (.cells #[.int .u8 2, .int .u8 2, .int .u8 1, .int .u8 0, .int .u8 0] 5)).cell? ⟨b6, o6, none⟩ = some (.int .i64 3) := (((Below.refl _ _).alloc (Nat.le_refl _) _).cell (p := ⟨b6, _, none⟩) hlt6).trans hc0
  have hc1' : (w6.alloc (.cells #[.int .u8 2, .int .u8 2, .int .u8 1, .int .u8 0, .int .u8 0] 5)).cell? ⟨b6, o6 + 1, none⟩ = some (.int .i64 2) := (((Below.refl _ _).alloc (Nat.le_refl _) _).cell (p := ⟨b6, _, none⟩) hlt6).trans hc1
  clear hc0 hc1
  go_wp2_with fail
  refine (len_calls _ p g 16 a2 ((HC6.out.alloc _).drewN _)).mono ?_
  rw [a2_len]
  rintro e w' ⟨rfl, rfl⟩
  go_wp2_with fail
  go_ret
  exact ⟨rfl, below_drewN (below_alloc hb6' hs6 _) _⟩
end Go.Proofs.Ytknieebmcpgppaa.Cell
