/- The law's own small function alive of layer 3: it returns true. -/
import Derived.Test.YtknieebmcpgppaaDoorBitH
import Derived.Test.YtknieebmcpgppaaDoorSame
import Derived.ChangeKeysEq
namespace Go.Proofs.YtknieebmcpgppaaDoor.Bit
open Go.RowKit Go.Proofs.YtknieebmcpgppaaDoor.Aid
def b0 : List Bool := List.replicate 70 false
def b1 : List Bool := setL b0 65 true
def b2 : List Bool := setL b1 65 true
def b3 : List Bool := setL b2 3 true
def b4 : List Bool := setL b3 3 false
theorem b_facts : setB b0 65 true = true ∧ setB b1 65 true = false ∧ setB b2 3 true = true ∧ setB b3 3 false = true := by decide +kernel
theorem b3_words : words b3 = [8, 2] := by decide +kernel
theorem b_len : b3.length = 70 ∧ b4.length = 70 := by decide +kernel
theorem b3_cnt : cntL b3 = 2 := by decide +kernel
theorem b4_test : testB b4 65 = true := by decide +kernel
theorem b4_first : first b4 0 true = 65 := by decide +kernel
theorem b3_nth : nthL b3 1 = 65 := by decide +kernel
theorem b3_run1 : run b3 0 62 = -1 := by decide +kernel
theorem b3_run2 : run b3 2 61 = 4 := by decide +kernel
theorem b4_key : Bit.word b4 0 = 0 ∧ Bit.word b4 1 = 2 ∧ Bit.word b4 2 = 0 ∧ Bit.word b4 3 = 0 := by decide +kernel
theorem b3_list : listL b3 = [3, 65] := by decide +kernel
theorem b4_keyV : keyV b4 = #[.int .u64 0, .int .u64 2, .int .u64 0, .int .u64 0] := by
  unfold keyV
  obtain ⟨h0, h1, h2, h3⟩ := b4_key
  rw [h0, h1, h2, h3]
theorem eq_key (w : World) (a0 a1 a2 a3 b0 b1 b2 b3 : Int) : (Op.equalIn 10000 46 (.agg #[.int .u64 a0, .int .u64 a1, .int .u64 a2, .int .u64 a3]) (.agg #[.int .u64 b0, .int .u64 b1, .int .u64 b2, .int .u64 b3])).run Tryd.prog w = .ok (a0 == b0 && (a1 == b1 && (a2 == b2 && a3 == b3))) w := by
  have hp : Tryd.prog.plainKey 44 = true := by decide +kernel
  have hc : Tryd.prog.cellsOf 44 = 1 := by decide +kernel
  have hu : Tryd.prog.underlying 44 = some (.int .u64) := by kernel_rfl
  have hq : ∀ (w : World) (a b : Int), (Op.equalIn 9999 44 (.int .u64 a) (.int .u64 b)).run Tryd.prog w = .ok (a == b) w := fun w a b => run_equalIn_int w 9998 44 .u64 .u64 a b hu
  have hpt : ∀ (w : World) (xs : Array Value) (off : Nat) (v : Value), xs[off]? = some v → (part 44 xs off).run Tryd.prog w = .ok v w := fun w xs off v h => run_part_plain w hp h
  have hi : ∃ i, Tryd.prog.info? 44 = some i := info_of_underlying hu
  obtain ⟨i, hi⟩ := hi
  rw [run_equalIn_array w 9999 _ _ (by kernel_rfl : Tryd.prog.underlying 46 = some (.array 4 44)) hi, hc]
  have hr : List.range 4 = [0, 1, 2, 3] := by decide
  rw [hr]
  simp only [Op.eqItems, Sem.run_bind]
  rw [hpt w _ _ (.int .u64 a0) rfl, Result.andThen_ok, hpt w _ _ (.int .u64 b0) rfl, Result.andThen_ok, hq, Result.andThen_ok]
  cases h0 : (a0 == b0)
  · simp
  · simp only [Bool.not_true, Bool.false_eq_true, if_false, Sem.run_bind]
    rw [hpt w _ _ (.int .u64 a1) rfl, Result.andThen_ok, hpt w _ _ (.int .u64 b1) rfl, Result.andThen_ok, hq, Result.andThen_ok]
    cases h1 : (a1 == b1)
    · simp
    · simp only [Bool.not_true, Bool.false_eq_true, if_false, Sem.run_bind]
      rw [hpt w _ _ (.int .u64 a2) rfl, Result.andThen_ok, hpt w _ _ (.int .u64 b2) rfl, Result.andThen_ok, hq, Result.andThen_ok]
      cases h2 : (a2 == b2)
      · simp
      · simp only [Bool.not_true, Bool.false_eq_true, if_false, Sem.run_bind]
        rw [hpt w _ _ (.int .u64 a3) rfl, Result.andThen_ok, hpt w _ _ (.int .u64 b3) rfl, Result.andThen_ok, hq, Result.andThen_ok]
        cases h3 : (a3 == b3) <;> simp
set_option maxHeartbeats 8000000 in
set_option maxRecDepth 100000 in
theorem alive_calls (w : World) (hT : Tab w) : Calls Tryd.prog 10 #[] w fun e w' => e = .returned (.bool true) ∧ Below w.heap.size w w' := by
  have HT := Lib.hid hT
  have hw0 := hT.1
  clear hT
  obtain ⟨s1, s2, s3, s4⟩ := b_facts
  have S1 := Lib.hid s1
  have S2 := Lib.hid s2
  have S3 := Lib.hid s3
  have S4 := Lib.hid s4
  clear s1 s2 s3 s4
  go_enter Tryd.func10, Tryd.ntmps10
  go_wp2_with fail
  refine (new_yes w 70 (by decide) hw0).mono ?_
  rintro e w1 ⟨p, g, rfl, hR, hp, hg, hb1⟩
  have HR1 := Lib.hid (show RowAt w1 p g (nwords 70) b0 from hR)
  have hz1 := hb1.size
  generalize nwords 70 = cc at HR1
  clear hR
  go_wp2_with fail
  refine (set_calls w1 p g cc b0 65 HR1.out).mono ?_
  rintro e w2 ⟨he, hR2, hk2⟩
  rw [S1.out] at he
  subst he
  have HR2 := Lib.hid (show RowAt w2 p g cc b1 from hR2)
  have hb2 := below_kept hb1 hk2 hz1 (by simpa using hg)
  have hz2 := hb2.size
  clear hR2 hk2 HR1 hb1
  go_wp2_with fail
  refine (set_calls w2 p g cc b1 65 HR2.out).mono ?_
  rintro e w3 ⟨he, hR3, hk3⟩
  rw [S2.out] at he
  subst he
  have HR3 := Lib.hid (show RowAt w3 p g cc b2 from hR3)
  have hb3 := below_kept hb2 hk3 hz2 (by simpa using hg)
  have hz3 := hb3.size
  clear hR3 hk3 HR2 hb2
  go_wp2_with fail
  refine (set_calls w3 p g cc b2 3 HR3.out).mono ?_
  rintro e w4 ⟨he, hR4, hk4⟩
  rw [S3.out] at he
  subst he
  have HR4 := Lib.hid (show RowAt w4 p g cc b3 from hR4)
  have hb4 := below_kept hb3 hk4 hz3 (by simpa using hg)
  have hz4 := hb4.size
  clear hR4 hk4 HR3 hb3
  go_wp2_with fail
  refine (words_calls w4 p g cc b3 HR4.out).mono ?_
  rw [b3_words]
  rintro e w5 ⟨g5, c5, rfl, hr5, hg5, hb5⟩
  have HW5 := Lib.hid hr5
  have HR5 := Lib.hid (HR4.out.below hb5)
  have n3 : g5 ≠ g := by have := HR4.out.row.lt; omega
  have hb5' := below_then hb4 hb5
  have hz5 := hb5'.size
  clear hr5 hb5 HR4 hb4
  go_wp2_with fail
  refine (clone_calls w5 p g cc b3 HR5.out).mono ?_
  rintro e w6 ⟨p6, g6, c6, rfl, hC6, hp6, hg6, hb6⟩
  have HC6 := Lib.hid hC6
  have HR6 := Lib.hid (HR5.out.below hb6)
  have HW6 := Lib.hid (HW5.out.below hb6)
  have n1 : p6 ≠ g := by have := HR5.out.row.lt; omega
  have n2 : g6 ≠ g := by have := HR5.out.row.lt; omega
  have hb6' := below_then hb5' hb6
  have hz6 := hb6'.size
  clear hC6 hb6 HR5 HW5 hb5'
  go_wp2_with fail
  refine (clear_calls w6 p g cc b3 3 HR6.out).mono ?_
  rintro e w7 ⟨he, hR7, hk7⟩
  rw [S4.out] at he
  subst he
  have HR7 := Lib.hid (show RowAt w7 p g cc b4 from hR7)
  have HC7 := Lib.hid (HC6.out.kept hk7 (by simpa using n1) (by simpa using n2))
  have HW7 := Lib.hid (HW6.out.kept hk7 (by simpa using n3))
  have hb7 := below_kept hb6' hk7 hz6 (by simpa using hg)
  have hz7 := hb7.size
  have HT7 := Lib.hid (HT.out.below hb7)
  have q0 := HW7.out.cell (k := 0) (by decide)
  have q1 := HW7.out.cell (k := 1) (by decide)
  clear hR7 hk7 HR6 HC6 HW6 hb6'
  go_wp2_with fail
  refine (count_calls w7 p6 g6 c6 b3 HC7.out).mono ?_
  rw [b3_cnt]
  rintro e w8 ⟨rfl, rfl⟩
  go_wp2_with fail
  refine (test_calls w7 p g cc b4 65 HR7.out).mono ?_
  rw [b4_test]
  rintro e w8 ⟨rfl, nq, rfl⟩
  have HR8 := Lib.hid (HR7.out.drewN nq)
  have HC8 := Lib.hid (HC7.out.drewN nq)
  have HT8 := Lib.hid (HT7.out.drewN nq)
  have hb8 := below_drewN hb7 nq
  have hz8 := hb8.size
  generalize w7.drewN nq = w8 at HR8 HC8 HT8 hb8 hz8 ⊢
  clear HR7 HC7 HW7 HT7 hb7 q0 q1
  go_wp2_with fail
  refine (first_walk w8 p g cc b4 0 true HR8.out HT8.out (by decide)).mono ?_
  rw [show first b4 (Int.toNat 0) true = 65 from b4_first]
  rintro e w9 ⟨rfl, rfl⟩
  go_wp2_with fail
  refine (nth_calls w8 p6 g6 c6 b3 1 HC8.out HT8.out (by decide)).mono ?_
  rw [b3_nth]
  rintro e w9 ⟨rfl, rfl⟩
  go_wp2_with fail
  refine (run_calls w8 p6 g6 c6 b3 0 62 HC8.out HT8.out (by decide) (by decide)).mono ?_
  rw [show run b3 (Int.toNat 0) 62 = -1 from b3_run1]
  rintro e w9 ⟨rfl, rfl⟩
  go_wp2_with fail
  refine (run_calls w8 p6 g6 c6 b3 2 61 HC8.out HT8.out (by decide) (by decide)).mono ?_
  rw [show run b3 (Int.toNat 2) 61 = 4 from b3_run2]
  rintro e w9 ⟨rfl, rfl⟩
  go_wp2_with fail
  refine (key_calls w8 p g cc b4 HR8.out).mono ?_
  rw [b4_keyV]
  rintro e w9 ⟨rfl, hb9⟩
  have ek := eq_key w9 0 2 0 0 0 2 0 0
  have HR9 := Lib.hid (HR8.out.below hb9)
  have HC9 := Lib.hid (HC8.out.below hb9)
  have HT9 := Lib.hid (HT8.out.below hb9)
  have hb9' := below_then hb8 hb9
  have hz9 := hb9'.size
  clear HR8 HC8 HT8 hb8 hb9
  go_wp2_with fail
  refine (list_calls w9 p6 g6 c6 b3 HC9.out HT9.out).mono ?_
  rw [b3_list]
  rintro e w10 ⟨v, rfl, hL, hb10⟩
  have HR10 := Lib.hid (HR9.out.below hb10)
  have hb10' := below_then hb9' hb10
  have hz10 := hb10'.size
  obtain ⟨A, c, rfl, hI⟩ := hL.shape
  have HI := Lib.hid hI
  clear HR9 HC9 HT9 hb9' hb10 hI hL
  go_wp2_with fail
  have hI2 : Ints (w10.alloc (.cells #[.int .i64 3, .int .i64 65] 3)) .i64 (some ⟨w10.heap.size, 0, none⟩) [3, 65] := by
    intro k hk
    refine ⟨_, _, rfl, by simp, ?_⟩
    have : k = 0 ∨ k = 1 := by simp at hk; omega
    rcases this with rfl | rfl <;> go_simp
  have hba := (Below.refl w10.heap.size w10).alloc (Nat.le_refl _) (.cells #[.int .i64 3, .int .i64 65] 3)
  refine (same_ints [3, 65] [3, 65] A _ c 2 _ (HI.out.below hba) hI2 (by decide)).mono ?_
  rintro e w11 ⟨rfl, nr, rfl⟩
  have HR11 := Lib.hid ((HR10.out.below hba).drewN nr)
  have hb11 := below_drewN (below_then hb10' hba) nr
  generalize (w10.alloc (.cells #[.int .i64 3, .int .i64 65] 3)).drewN nr = w11 at HR11 hb11 ⊢
  clear HR10 hb10' hba HI hI2
  go_wp2_with fail
  refine (len_calls w11 p g cc b4 HR11.out).mono ?_
  rw [b_len.2]
  rintro e w12 ⟨rfl, rfl⟩
  go_wp2_with fail
  go_ret
  exact ⟨rfl, hb11⟩
end Go.Proofs.YtknieebmcpgppaaDoor.Bit
