/- The walk of CellsApart: it returns true. -/
import Derived.Test.YtknieebmcpgppaaCellW
namespace Go.Proofs.Ytknieebmcpgppaa.Cell
open Go.RowKit Go.Proofs.Ytknieebmcpgppaa.Aid
theorem num_snoc (l : List Int) (x : Int) : num (l ++ [x]) = num l + x * ((256 ^ l.length : Nat) : Int) := by
  induction l with
  | nil => simp [num]
  | cons y l ih' =>
    rw [List.cons_append, num, ih', num, List.length_cons, Nat.pow_succ]
    rw [Int.natCast_mul, Int.mul_add]
    simp only [Int.add_assoc]
    congr 2
    rw [← Int.mul_assoc, Int.mul_comm 256 x, Int.mul_assoc, Int.mul_comm 256]
    rfl
theorem num_bytes (v : Nat) : ∀ k, num (bytesTo v k) = ((v % 256 ^ k : Nat) : Int)
  | 0 => by simp [bytesTo, num, Nat.mod_one]
  | k + 1 => by
    rw [bytesTo_succ, num_snoc, num_bytes v k, bytesTo_len, Nat.mod_pow_succ]
    have e1 : (2 : Nat) ^ (8 * k) = 256 ^ k := by rw [show (256 : Nat) = 2 ^ 8 from rfl, ← Nat.pow_mul]
    have e2 : ((v : Int) / 2 ^ (8 * k)) = ((v / 256 ^ k : Nat) : Int) := by
      rw [← e1]; simp
    have e3 : IntKind.u8.wrap (((v / 256 ^ k : Nat) : Int)) = ((v / 256 ^ k % 256 : Nat) : Int) := by
      simp [IntKind.wrap, IntKind.bits, IntKind.signed]
    rw [e2, e3]
    simp [Int.mul_comm]
theorem u64_and_nat (x y : Nat) (hx : x < 18446744073709551616) : Go.bits .and .u64 (x : Int) (y : Int) = ((x &&& y : Nat) : Int) := by
  apply R_inj (R_bits _ _ _)
  · unfold R
    have := Nat.and_le_left (n := x) (m := y)
    omega
  · rw [B_and, B_nat, B_nat, B_nat, BitVec.ofNat_and]
theorem and_mask (v : Int) (n : Nat) (h0 : 0 ≤ v) (h1 : v < 18446744073709551616) (hn : n ≤ 63) : Go.bits .and .u64 v ((2 ^ n - 1 : Nat) : Int) = ((v.toNat % 2 ^ n : Nat) : Int) := by
  obtain ⟨x, rfl⟩ := Int.eq_ofNat_of_zero_le h0
  have : 2 ^ n ≤ 2 ^ 63 := Nat.pow_le_pow_right (by decide) hn
  have h63 : (2 : Nat) ^ 63 = 9223372036854775808 := by decide
  rw [u64_and_nat _ _ (by omega), Nat.and_two_pow_sub_one_eq_mod]
  simp
/-- The number that is loaded where it was stored. -/
theorem stored_num (bs : List Int) (a k : Nat) (v : Int) (hk : k ≤ 8) (hn : a + k ≤ bs.length) (hb : Byt bs) (h0 : 0 ≤ v) : orTo (lay bs a (bytesTo v k)) a k = ((v.toNat % 256 ^ k : Nat) : Int) := by
  have hl : a + (bytesTo v k).length ≤ bs.length := by rw [bytesTo_len]; exact hn
  rw [or_num _ _ _ hk (by rw [lay_len _ _ _ hl]; exact hn) (hb.lay (bytesTo_byt v k) hl)]
  have : sub (lay bs a (bytesTo v k)) a k = bytesTo v k := by
    apply List.ext_getElem?
    intro i
    unfold sub
    rw [List.getElem?_take, List.getElem?_drop, lay_get? _ _ _ _ hl, bytesTo_len]
    by_cases hi : i < k
    · rw [if_pos hi, if_neg (by omega), if_pos (by omega)]
      congr 1; omega
    · rw [if_neg hi, List.getElem?_eq_none (by rw [bytesTo_len]; omega)]
  rw [this]
  obtain ⟨x, rfl⟩ := Int.eq_ofNat_of_zero_le h0
  exact num_bytes x k
def sevens (n : Nat) : List Int := List.replicate n 7
theorem fill_sevens (n : Nat) : lay (List.replicate n (0 : Int)) 0 (List.replicate n 7) = sevens n := by simp [lay, sevens]
theorem sevens_len (n : Nat) : (sevens n).length = n := by simp [sevens]
theorem sevens_get (n k : Nat) (h : k < n) : (sevens n).getD k 0 = 7 := by simp [sevens, List.getD_eq_getElem?_getD, h]
theorem sub_sevens (n : Nat) : sub (sevens n) 0 n = sevens n := by simp [sub, sevens]
/-- A byte beside what was stored. -/
theorem beside (n a k o : Nat) (v : Int) (hn : a + k ≤ n) (ho : o < n) (h : o < a ∨ a + k ≤ o) : orTo (lay (sevens n) a (bytesTo v k)) o 1 = 7 := by
  have hl : a + (bytesTo v k).length ≤ (sevens n).length := by rw [bytesTo_len, sevens_len]; exact hn
  show Go.bits .or .u64 0 (IntKind.u64.wrap (_ * 2 ^ (8 * 0))) = 7
  rw [Nat.add_zero, lay_get _ _ _ _ hl, bytesTo_len, if_neg (by omega), sevens_get _ _ ho]
  decide
/-- What behind New and Fill is. -/
structure Begun (w : World) (n p g : Nat) (w' : World) : Prop where
  at_ : CellAt w' p g n (sevens n)
  hp : w.heap.size ≤ p
  hg : w.heap.size ≤ g
  below : Below w.heap.size w w'
set_option maxHeartbeats 4000000 in
theorem apart_no (w : World) (n : Nat) (a k v o : Int) (hn : n ≤ 2000) (hv : (widthB k && partB n a k) = false) :
    Calls Try.prog 3 #[.int .i64 n, .int .i64 a, .int .i64 k, .int .u64 v, .int .i64 o] w fun e w' => e = .returned (.bool true) ∧ Below w.heap.size w w' := by
  have h1 : (n : Int) ≤ 2000 := by omega
  have h0 : (0 : Int) ≤ (n : Int) := by omega
  have HV := Lib.hid hv
  clear hv
  go_enter Try.func3, Try.ntmps3
  go_wp2_with fail
  refine (alive_calls _).mono ?_
  rintro e w1 ⟨rfl, hb1⟩
  go_wp2_with fail
  refine (new_yes w1 n (by omega)).mono ?_
  rintro e w2 ⟨p, g, rfl, hC, hp, hg, hb2⟩
  have HC := Lib.hid hC
  have hb2' := below_then hb1 hb2
  have hs1 := hb1.size
  have hs2 := hb2'.size
  clear hC hb2
  go_wp2_with fail
  refine (fill_yes w2 p g n _ 0 n 7 HC.out (by simp) (by omega) (by omega)).mono ?_
  rw [fill_sevens]
  rintro e w3 ⟨rfl, hC3, hk3⟩
  have HC3 := Lib.hid hC3
  have hb3 := below_kept hb2' hk3 hs2 (by simp; omega)
  have hs3 := hb3.size
  clear hC3 hk3
  go_wp2_with fail
  refine (store_no w3 p g n _ a k v HC3.out (by rw [sevens_len]; exact HV.out)).mono ?_
  rintro e w' ⟨rfl, rfl⟩
  go_wp2_with fail
  refine (read_yes w3 p g n _ 0 n HC3.out (by rw [sevens_len]; omega)).mono ?_
  rw [sub_sevens]
  rintro e w4 ⟨g4, c4, rfl, hr4, hg4, hb4⟩
  have hlen := sevens_len n
  have HR4 := Lib.hid hr4
  have hb4' := below_then hb3 hb4
  clear hr4 hb4
  go_wp2_with fail
  go_loop [15] (fun i => ∃ j : Nat, j ≤ n ∧ i = .int .i64 j) (fun i => n - (intOf i).toNat)
  case atStart => exact ⟨0, by omega, rfl⟩
  case round =>
    obtain ⟨j, hj, rfl⟩ := hrel
    by_cases hlt : j < n
    · obtain ⟨b, o', e', hlt', hc⟩ := HR4.out.ints j (by rw [hlen]; exact hlt)
      cases e'
      rw [sevens_get _ _ hlt, Nat.zero_add] at hc
      have hi0 : (0 : Int) ≤ (j : Int) := by omega
      go_wp2
      go_round
      case rel => exact ⟨j + 1, by omega, by go_num⟩
      case measure => simp [intOf]; omega
    · obtain rfl : j = n := by omega
      go_wp2
      go_ret
      exact ⟨rfl, hb4'⟩
set_option maxHeartbeats 8000000 in
theorem apart_yes (w : World) (n a k : Nat) (v o : Int) (hn : n ≤ 2000) (hk : widthB k = true) (hv : a + k ≤ n) (h0v : 0 ≤ v) (h1v : v < 18446744073709551616) :
    Calls Try.prog 3 #[.int .i64 n, .int .i64 a, .int .i64 k, .int .u64 v, .int .i64 o] w fun e w' => e = .returned (.bool true) ∧ Below w.heap.size w w' := by
  have h1 : (n : Int) ≤ 2000 := by omega
  have h0 : (0 : Int) ≤ (n : Int) := by omega
  have hm := stored_num (sevens n) a k v (by have := width_cases hk; omega) (by rw [sevens_len]; exact hv) (Byt.rep (by omega) (by omega) n) h0v
  have hb := beside n a k
  have HB := Lib.hid hb
  have HK := Lib.hid hk
  have hkc : k = 1 ∨ k = 2 ∨ k = 4 ∨ k = 8 := by have := width_cases hk; omega
  have m1 := and_mask v 8 h0v h1v (by omega)
  have m2 := and_mask v 16 h0v h1v (by omega)
  have m4 := and_mask v 32 h0v h1v (by omega)
  have m8 : ((v.toNat % 256 ^ 8 : Nat) : Int) = v := by
    have : (256 : Nat) ^ 8 = 18446744073709551616 := by decide
    rw [this]; omega
  have HM := Lib.hid (show ((k = 1 ∧ orTo (lay (sevens n) a (bytesTo v k)) a k = Go.bits .and .u64 v 255) ∨ (k = 2 ∧ orTo (lay (sevens n) a (bytesTo v k)) a k = Go.bits .and .u64 v 65535) ∨ (k = 4 ∧ orTo (lay (sevens n) a (bytesTo v k)) a k = Go.bits .and .u64 v 4294967295) ∨ (k = 8 ∧ orTo (lay (sevens n) a (bytesTo v k)) a k = v)) by
    rcases hkc with rfl | rfl | rfl | rfl
    · exact .inl ⟨rfl, hm.trans m1.symm⟩
    · exact .inr (.inl ⟨rfl, hm.trans m2.symm⟩)
    · exact .inr (.inr (.inl ⟨rfl, hm.trans m4.symm⟩))
    · exact .inr (.inr (.inr ⟨rfl, hm.trans m8⟩)))
  clear hm hb hk m1 m2 m4 m8 hkc h0v h1v
  go_enter Try.func3, Try.ntmps3
  go_wp2_with fail
  refine (alive_calls _).mono ?_
  rintro e w1 ⟨rfl, hb1⟩
  go_wp2_with fail
  refine (new_yes w1 n (by omega)).mono ?_
  rintro e w2 ⟨p, g, rfl, hC, hp, hg, hb2⟩
  have HC := Lib.hid hC
  have hb2' := below_then hb1 hb2
  have hs1 := hb1.size
  have hs2 := hb2'.size
  clear hC hb2
  go_wp2_with fail
  refine (fill_yes w2 p g n _ 0 n 7 HC.out (by simp) (by omega) (by omega)).mono ?_
  rw [fill_sevens]
  rintro e w3 ⟨rfl, hC3, hk3⟩
  have HC3 := Lib.hid hC3
  have hb3 := below_kept hb2' hk3 hs2 (by simp; omega)
  have hs3 := hb3.size
  clear hC3 hk3
  go_wp2_with fail
  refine (store_yes w3 p g n _ a k v HC3.out HK.out (by rw [sevens_len]; exact hv)).mono ?_
  rintro e w4 ⟨rfl, hC4, hk4⟩
  have HC4 := Lib.hid hC4
  have hb4 := below_kept hb3 hk4 hs3 (by simp; omega)
  have hll : (lay (sevens n) a (bytesTo v k)).length = n := by rw [lay_len _ _ _ (by rw [bytesTo_len, sevens_len]; exact hv), sevens_len]
  have Hll := Lib.hid hll
  clear hC4 hk4 hll
  go_wp2_with fail
  refine (load_yes w4 p g n _ a k HC4.out HK.out (by rw [Hll.out]; exact hv)).mono ?_
  rintro e w' ⟨rfl, rfl⟩
  by_cases ho0 : o < 0
  · rcases HM.out with ⟨rfl, hu⟩ | ⟨rfl, hu⟩ | ⟨rfl, hu⟩ | ⟨rfl, hu⟩
    all_goals
      rw [hu]
      clear hu
      go_wp2_with fail
      go_ret
      exact ⟨rfl, hb4⟩
  · by_cases hon : (n : Int) ≤ o
    · rcases HM.out with ⟨rfl, hu⟩ | ⟨rfl, hu⟩ | ⟨rfl, hu⟩ | ⟨rfl, hu⟩
      all_goals
        rw [hu]
        clear hu
        go_wp2_with fail
        go_ret
        exact ⟨rfl, hb4⟩
    · have hoo : 0 ≤ o := by omega
      obtain ⟨o, rfl⟩ := Int.eq_ofNat_of_zero_le hoo
      have hon' : (o : Int) < (n : Int) := by omega
      by_cases hoa : (o : Int) < a
      · have hL := load_yes w4 p g n _ o 1 HC4.out (by decide) (by rw [Hll.out]; omega)
        rw [HB.out o v hv (by omega) (.inl (by omega))] at hL
        have HL := Lib.hid hL
        clear hL
        rcases HM.out with ⟨rfl, hu⟩ | ⟨rfl, hu⟩ | ⟨rfl, hu⟩ | ⟨rfl, hu⟩
        all_goals
          rw [hu]
          clear hu
          go_wp2_with fail
          refine HL.out.mono ?_
          rintro e w' ⟨rfl, rfl⟩
          go_wp2_with fail
          go_ret
          exact ⟨rfl, hb4⟩
      · have hoa' : (a : Int) ≤ o := by omega
        by_cases hok : (o : Int) < (a : Int) + k
        · rcases HM.out with ⟨rfl, hu⟩ | ⟨rfl, hu⟩ | ⟨rfl, hu⟩ | ⟨rfl, hu⟩
          all_goals
            rw [hu]
            clear hu
            go_wp2_with fail
            go_ret
            exact ⟨rfl, hb4⟩
        · have hL := load_yes w4 p g n _ o 1 HC4.out (by decide) (by rw [Hll.out]; omega)
          rw [HB.out o v hv (by omega) (.inr (by omega))] at hL
          have HL := Lib.hid hL
          clear hL
          rcases HM.out with ⟨rfl, hu⟩ | ⟨rfl, hu⟩ | ⟨rfl, hu⟩ | ⟨rfl, hu⟩
          all_goals
            rw [hu]
            clear hu
            go_wp2_with fail
            refine HL.out.mono ?_
            rintro e w' ⟨rfl, rfl⟩
            go_wp2_with fail
            go_ret
            exact ⟨rfl, hb4⟩
theorem apart_walk (n a k v o : Int) (hn : -9223372036854775808 ≤ n ∧ n < 9223372036854775808) (_ha : -9223372036854775808 ≤ a ∧ a < 9223372036854775808) (_hk : -9223372036854775808 ≤ k ∧ k < 9223372036854775808) (hv : 0 ≤ v ∧ v < 18446744073709551616) (_ho : -9223372036854775808 ≤ o ∧ o < 9223372036854775808) {w : World} :
    Calls Try.prog 3 #[.int .i64 n, .int .i64 a, .int .i64 k, .int .u64 v, .int .i64 o] w fun e w' => e = .returned (.bool true) ∧ Below w.heap.size w w' := by
  by_cases h0 : n < 0
  · clear hn _ha _hk hv _ho
    go_enter Try.func3, Try.ntmps3
    go_wp2_with fail
    refine (alive_calls _).mono ?_
    rintro e w1 ⟨rfl, hb1⟩
    go_wp2_with fail
    go_ret
    exact ⟨rfl, hb1⟩
  · by_cases h1 : 2000 < n
    · clear hn _ha _hk hv _ho
      have h2 : 0 ≤ n := by omega
      go_enter Try.func3, Try.ntmps3
      go_wp2_with fail
      refine (alive_calls _).mono ?_
      rintro e w1 ⟨rfl, hb1⟩
      go_wp2_with fail
      go_ret
      exact ⟨rfl, hb1⟩
    · obtain ⟨n, rfl⟩ := Int.eq_ofNat_of_zero_le (show 0 ≤ n by omega)
      cases hp : (widthB k && partB n a k)
      · exact apart_no w n a k v o (by omega) hp
      · rw [Bool.and_eq_true] at hp
        obtain ⟨h3, h4, h5, h6⟩ := partB_true hp.2
        obtain ⟨a, rfl⟩ := Int.eq_ofNat_of_zero_le h4
        obtain ⟨k, rfl⟩ := Int.eq_ofNat_of_zero_le h3
        exact apart_yes w n a k v o (by omega) hp.1 (by omega) hv.1 hv.2
end Go.Proofs.Ytknieebmcpgppaa.Cell
